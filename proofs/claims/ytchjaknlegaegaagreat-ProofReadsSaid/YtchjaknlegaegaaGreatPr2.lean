/- ProofReads returns true at every input, and the input reads as it did. Part 3 of 5. No condition. -/
import Derived.Test.YtchjaknlegaegaaGreatPr1
section
/- Functions of the program: what each comes to, proved. -/
set_option linter.unusedVariables false
set_option linter.unusedSimpArgs false
set_option maxRecDepth 100000
set_option maxHeartbeats 4000000
namespace Go.Ch
open Go.RowKit (wrap64)
open Go.Proofs
noncomputable section
/- chirograph/proof.up -/
def proof_up  (a0 : Item) (a1 : Item) (a2 : Lab) : Option (Inner × Int) :=
 ((bits_Order a0.bits a1.bits).bind fun t15 => (if (decide ((0 : Int) < t15)) = true then ((node_Check (Nd.inner (⟨a1, a0⟩ : Inner))).bind fun t23 => (if (t23 != (0 : Int)) = true then some ((⟨a1, a0⟩ : Inner), t23) else ((node_Inner_Item (⟨a1, a0⟩ : Inner)).bind fun t32 => (((bits_Prefix_Has (⟨t32.len, t32.bits⟩ : Pfx) a2).bind fun t43 => (if (!t43) = true then some true else ((bits_Bit a2 t32.len).bind fun t53 => ((bits_Bit a0.bits t32.len).bind fun t58 => some (t53 != t58))))).bind fun b42 => (if b42 = true then some ((⟨a1, a0⟩ : Inner), (11 : Int)) else some ((⟨a1, a0⟩ : Inner), (0 : Int))))))) else ((node_Check (Nd.inner (⟨a0, a1⟩ : Inner))).bind fun t82 => (if (t82 != (0 : Int)) = true then some ((⟨a0, a1⟩ : Inner), t82) else ((node_Inner_Item (⟨a0, a1⟩ : Inner)).bind fun t91 => (((bits_Prefix_Has (⟨t91.len, t91.bits⟩ : Pfx) a2).bind fun t102 => (if (!t102) = true then some true else ((bits_Bit a2 t91.len).bind fun t112 => ((bits_Bit a0.bits t91.len).bind fun t117 => some (t112 != t117))))).bind fun b101 => (if b101 = true then some ((⟨a0, a1⟩ : Inner), (11 : Int)) else some ((⟨a0, a1⟩ : Inner), (0 : Int)))))))))

theorem proof_up_ok {S : Hp} (a0 : Item) (a1 : Item) (a2 : Lab) {r : Inner × Int} (h : proof_up a0 a1 a2 = some r) : Fn Tryz.prog 55 [aggV [sV (.int .i64 a0.len), sL a0.bits, sL a0.sum, sV (.int .i64 a0.at_)], aggV [sV (.int .i64 a1.len), sL a1.bits, sL a1.sum, sV (.int .i64 a1.at_)], aggV [sL a2]] S (fun v S' => v = .tuple #[aggV [sV (.int .i64 r.1.l.len), sL r.1.l.bits, sL r.1.l.sum, sV (.int .i64 r.1.l.at_), sV (.int .i64 r.1.r.len), sL r.1.r.bits, sL r.1.r.sum, sV (.int .i64 r.1.r.at_)], .int .i64 r.2]) := by
 unfold proof_up at h
 refine fo [.cell 6 31, .tmp 7] 54 Tryz.func55 Tryz.ntmps55 (fun o F Q hQ hN hret => ?_)
 refine sr (fun _ hK1 => ?_)
 refine st (OS.boxA (by decide) rfl (fun ad2 => ?_))
 refine st (OS.boxA (by decide) rfl (fun ad4 => ?_))
 refine st (OS.boxA (by decide) rfl (fun ad6 => ?_))
 refine st (OS.alloc _ (by decide) zero31 (fun ad8 => ?_))
 refine an ?_
 refine nt hK1 ?_
 refine sr (fun _ hK10 => ?_)
 refine lb 3 0 4 [sV (.int .i64 a0.len), sL a0.bits, sL a0.sum, sV (.int .i64 a0.at_)] row29 ?_
 refine lb 2 0 4 [sV (.int .i64 a1.len), sL a1.bits, sL a1.sum, sV (.int .i64 a1.at_)] row29 ?_
 refine vl (Y.buildE _ [sV (.int .i64 a0.len), sL a0.bits, sL a0.sum, sV (.int .i64 a0.at_), sV (.int .i64 a1.len), sL a1.bits, sL a1.sum, sV (.int .i64 a1.at_)] strt31 zero31 rfl (.cons 0 4 [sV (.int .i64 a0.len), sL a0.bits, sL a0.sum, sV (.int .i64 a0.at_)] rfl (aggV_cells _) rfl rfl rfl (.cons 4 4 [sV (.int .i64 a1.len), sL a1.bits, sL a1.sum, sV (.int .i64 a1.at_)] rfl (aggV_cells _) rfl rfl rfl .nil))) ?_
 refine st (OS.alloc _ (by decide) zero31 (fun ad11 => ?_))
 refine sf 0 8 [sV (.int .i64 a0.len), sL a0.bits, sL a0.sum, sV (.int .i64 a0.at_), sV (.int .i64 a1.len), sL a1.bits, sL a1.sum, sV (.int .i64 a1.at_)] (aggV_cells _) (oI (oL (oL (oI (oI (oL (oL (oI oN)))))))) size31 ?_
 refine nt hK10 ?_
 refine G.seq (fun _ hK13 => ?_)
 refine sr (fun _ hK14 => ?_)
 refine vl (Y.fieldAddr 0 rfl fld29_0 rfl) ?_
 refine vl (Y.fieldAddr 1 rfl fld27_1 rfl) ?_
 refine lb 4 1 1 [sL a0.bits] row23 ?_
 refine vl (Y.fieldAddr 0 rfl fld29_0 rfl) ?_
 refine vl (Y.fieldAddr 1 rfl fld27_1 rfl) ?_
 refine lb 3 1 1 [sL a1.bits] row23 ?_
 obtain ⟨t15, wt15, h⟩ := bind_some' h
 refine st (cl fb121 (bits_Order_ok a0.bits a1.bits wt15) (fun v16 S17 e18 z19 => ?_))
 obtain rfl := z19
 refine vl (Y.gtI rfl rfl) ?_
 refine nt hK14 ?_
 refine G.cond _ rfl (fun c20 => ?_) (fun c20 => ?_)
 ·replace h := ite_t c20 h
  refine G.region ?_
  refine lb 3 0 4 [sV (.int .i64 a1.len), sL a1.bits, sL a1.sum, sV (.int .i64 a1.at_)] row29 ?_
  refine lb 4 0 4 [sV (.int .i64 a0.len), sL a0.bits, sL a0.sum, sV (.int .i64 a0.at_)] row29 ?_
  refine vl (Y.buildE _ [sV (.int .i64 a1.len), sL a1.bits, sL a1.sum, sV (.int .i64 a1.at_), sV (.int .i64 a0.len), sL a0.bits, sL a0.sum, sV (.int .i64 a0.at_)] strt31 zero31 rfl (.cons 0 4 [sV (.int .i64 a1.len), sL a1.bits, sL a1.sum, sV (.int .i64 a1.at_)] rfl (aggV_cells _) rfl rfl rfl (.cons 4 4 [sV (.int .i64 a0.len), sL a0.bits, sL a0.sum, sV (.int .i64 a0.at_)] rfl (aggV_cells _) rfl rfl rfl .nil))) ?_
  refine sf 0 8 [sV (.int .i64 a1.len), sL a1.bits, sL a1.sum, sV (.int .i64 a1.at_), sV (.int .i64 a0.len), sL a0.bits, sL a0.sum, sV (.int .i64 a0.at_)] (aggV_cells _) (oI (oL (oL (oI (oI (oL (oL (oI oN)))))))) size31 ?_
  refine nt hK13 ?_
  refine G.seq (fun _ hK21 => ?_)
  refine sr (fun _ hK22 => ?_)
  refine lb 0 0 8 [sV (.int .i64 a1.len), sL a1.bits, sL a1.sum, sV (.int .i64 a1.at_), sV (.int .i64 a0.len), sL a0.bits, sL a0.sum, sV (.int .i64 a0.at_)] row31 ?_
  refine vl (Y.mkI rfl stt31) ?_
  obtain ⟨t23, wt23, h⟩ := bind_some' h
  refine st (cl fb52 (node_Check_ok (Nd.inner (⟨a1, a0⟩ : Inner)) wt23) (fun v24 S25 e26 z27 => ?_))
  obtain rfl := z27
  refine an ?_
  refine nt hK22 ?_
  refine sr (fun _ hK28 => ?_)
  refine mv ?_
  refine vl (Y.neI rfl rfl) ?_
  refine nt hK28 ?_
  refine G.cond _ rfl (fun c29 => ?_) (fun c29 => ?_)
  ·replace h := ite_t c29 h
   refine sr (fun _ hK30 => ?_)
   refine lb 0 0 8 [sV (.int .i64 a1.len), sL a1.bits, sL a1.sum, sV (.int .i64 a1.at_), sV (.int .i64 a0.len), sL a0.bits, sL a0.sum, sV (.int .i64 a0.at_)] row31 ?_
   refine mv ?_
   refine sf 1 8 [sV (.int .i64 a1.len), sL a1.bits, sL a1.sum, sV (.int .i64 a1.at_), sV (.int .i64 a0.len), sL a0.bits, sL a0.sum, sV (.int .i64 a0.at_)] (aggV_cells _) (oI (oL (oL (oI (oI (oL (oL (oI oN)))))))) size31 ?_
   refine an ?_
   refine nt hK30 ?_
   refine G.ret ?_
   obtain rfl := Option.some.inj h
   exact hret _ _ _ _ 5 (l2 e18 e26) (.cons (.row (k := 1) rfl rfl row31 (by kernel_rfl)) (.cons (.tmp rfl) .nil)) rfl rfl
  replace h := ite_f c29 h
  refine sk hK21 ?_
  refine sr (fun _ hK31 => ?_)
  refine lb 0 0 8 [sV (.int .i64 a1.len), sL a1.bits, sL a1.sum, sV (.int .i64 a1.at_), sV (.int .i64 a0.len), sL a0.bits, sL a0.sum, sV (.int .i64 a0.at_)] row31 ?_
  obtain ⟨t32, wt32, h⟩ := bind_some' h
  refine st (cl fb46 (node_Inner_Item_ok (⟨a1, a0⟩ : Inner) wt32) (fun v33 S34 e35 z36 => ?_))
  obtain rfl := z36
  refine vl (Y.field 0 2 [sV (.int .i64 t32.len), sL t32.bits] rfl ⟨_, _, Tryz.underlying29, rfl, rfl, rfl⟩ rfl rfl row27 (by kernel_rfl)) ?_
  refine st (OS.alloc _ (by decide) zero27 (fun ad37 => ?_))
  refine sf 0 2 [sV (.int .i64 t32.len), sL t32.bits] (aggV_cells _) (oI (oL oN)) size27 ?_
  refine nt hK31 ?_
  refine G.seq (fun _ hK39 => ?_)
  refine G.seq (fun _ hK40 => ?_)
  obtain ⟨b42, wb42, h⟩ := bind_some' h
  refine G.cut (fun E₀ S₀ L₀ => S34.le S₀ ∧ E₀ = [(51, .bool b42), (8, .pointer (some ⟨ad11, 0, none⟩)), (6, .pointer (some ⟨ad8, 0, none⟩))] ∧ Blk ad37 [sV (.int .i64 t32.len), sL t32.bits] :: Blk ad11 [sV (.int .i64 a1.len), sL a1.bits, sL a1.sum, sV (.int .i64 a1.at_), sV (.int .i64 a0.len), sL a0.bits, sL a0.sum, sV (.int .i64 a0.at_)] :: Blk ad8 [sV (.int .i64 0), sL zL, sL zL, sV (.int .i64 0), sV (.int .i64 0), sL zL, sL zL, sV (.int .i64 0)] :: Blk ad6 [sL a2] :: Blk ad4 [sV (.int .i64 a1.len), sL a1.bits, sL a1.sum, sV (.int .i64 a1.at_)] :: Blk ad2 [sV (.int .i64 a0.len), sL a0.bits, sL a0.sum, sV (.int .i64 a0.at_)] :: F = L₀) (fun K41 hK41 => ?_) ?_
  ·replace h := wb42
   obtain ⟨t43, wt43, h⟩ := bind_some' h
   rcases Bool.eq_false_or_eq_true (!t43) with c48 | c48
   ·replace h := ite_t c48 h
    obtain rfl := Option.some.inj h
    refine G.drawN 17 mixed (by kernel_rfl) ?_
    refine tn 0 rfl hQ (fun S₀ X₀ e₀ => Y.loadB (X₀.length + 0)  0 2 [sV (.int .i64 t32.len), sL t32.bits] rfl (Lk rfl) rfl rfl row27 (by kernel_rfl)) ?_
    refine tn 1 rfl hQ (fun S₀ X₀ e₀ => Y.loadB (X₀.length + 3)  0 1 [sL a2] rfl (Lk rfl) rfl rfl row23 (by kernel_rfl)) ?_
    refine g1 2 ?_
    refine n1 rfl (cl fb54 (bits_Prefix_Has_ok (⟨t32.len, t32.bits⟩ : Pfx) a2 wt43) (fun v49 S50 e51 z52 => ⟨⟨[], .refl, e51⟩, ?_⟩))
    obtain rfl := z52
    refine tn 3 rfl hQ (fun _ _ _ => Y.not rfl) ?_
    refine tn 4 rfl hQ (fun _ _ _ => Y.move rfl) ?_
    refine tf 5 rfl .refl hQ (gn 39 c48) ?_
    refine tf 6 rfl .refl hQ (gn 39 c48) ?_
    refine tf 7 rfl .refl hQ (gn 39 c48) ?_
    refine tf 8 rfl .refl hQ (gn 39 c48) ?_
    refine tf 9 rfl .refl hQ (gn 39 c48) ?_
    refine tf 10 rfl .refl hQ (gn 39 c48) ?_
    refine tf 11 rfl .refl hQ (gn 39 c48) ?_
    refine tf 12 rfl .refl hQ (gn 39 c48) ?_
    refine tf 13 rfl .refl hQ (gn 39 c48) ?_
    refine tf 14 rfl .refl hQ (gn 39 c48) ?_
    refine tf 15 rfl .refl hQ (gn 39 c48) ?_
    refine tn 16 rfl hQ (fun _ _ _ => Y.pickT _ c48 rfl rfl) ?_
    refine dn ?_
    refine GX.keep [51, 8, 6] rfl ?_
    exact hK41 _ _ _ ⟨e51, rfl, rfl⟩
   replace h := ite_f c48 h
   obtain ⟨t53, wt53, h⟩ := bind_some' h
   obtain ⟨t58, wt58, h⟩ := bind_some' h
   obtain rfl := Option.some.inj h
   refine G.drawN 17 mixed (by kernel_rfl) ?_
   refine tn 0 rfl hQ (fun S₀ X₀ e₀ => Y.loadB (X₀.length + 0)  0 2 [sV (.int .i64 t32.len), sL t32.bits] rfl (Lk rfl) rfl rfl row27 (by kernel_rfl)) ?_
   refine tn 1 rfl hQ (fun S₀ X₀ e₀ => Y.loadB (X₀.length + 3)  0 1 [sL a2] rfl (Lk rfl) rfl rfl row23 (by kernel_rfl)) ?_
   refine g1 2 ?_
   refine n1 rfl (cl fb54 (bits_Prefix_Has_ok (⟨t32.len, t32.bits⟩ : Pfx) a2 wt43) (fun v63 S64 e65 z66 => ⟨⟨[], .refl, e65⟩, ?_⟩))
   obtain rfl := z66
   refine tn 3 rfl hQ (fun _ _ _ => Y.not rfl) ?_
   refine tn 4 rfl hQ (fun _ _ _ => Y.move rfl) ?_
   refine tw 5 rfl .refl hQ (gi 39 c48) (fun S₀ X₀ e₀ => Y.loadB (X₀.length + 3)  0 1 [sL a2] rfl (Lk rfl) rfl rfl row23 (by kernel_rfl)) ?_
   refine tw 6 rfl .refl hQ (gi 39 c48) (fun _ _ _ => Y.fieldAddr 0 rfl fld27_0 rfl) ?_
   refine tw 7 rfl .refl hQ (gi 39 c48) (fun S₀ X₀ e₀ => Y.loadV (X₀.length + 0)  0 _ rfl (Lk rfl) rfl rfl one3) ?_
   refine tw 9 rfl .refl hQ (gi 39 c48) (fun _ _ _ => Y.fieldAddr 0 rfl fld29_0 rfl) ?_
   refine tw 10 rfl .refl hQ (gi 39 c48) (fun _ _ _ => Y.fieldAddr 1 rfl fld27_1 rfl) ?_
   refine tw 11 rfl .refl hQ (gi 39 c48) (fun S₀ X₀ e₀ => Y.loadB (X₀.length + 5)  1 1 [sL a0.bits] rfl (Lk rfl) rfl rfl row23 (by kernel_rfl)) ?_
   refine tw 12 rfl .refl hQ (gi 39 c48) (fun _ _ _ => Y.fieldAddr 0 rfl fld27_0 rfl) ?_
   refine tw 13 rfl .refl hQ (gi 39 c48) (fun S₀ X₀ e₀ => Y.loadV (X₀.length + 0)  0 _ rfl (Lk rfl) rfl rfl one3) ?_
   refine g1 8 ?_
   refine GD1.on rfl (gi 39 c48) (by kernel_rfl) (cl fb48 (bits_Bit_ok a2 t32.len wt53) (fun v67 S68 e69 z70 => ⟨⟨[], .refl, (l2 e65 e69)⟩, ?_⟩))
   obtain rfl := z70
   refine g1 14 ?_
   refine GD1.on rfl (gi 39 c48) (by kernel_rfl) (cl fb48 (bits_Bit_ok a0.bits t32.len wt58) (fun v71 S72 e73 z74 => ⟨⟨[], .refl, (l2 e65 (l2 e69 e73))⟩, ?_⟩))
   obtain rfl := z74
   refine tw 15 rfl .refl hQ (gi 39 c48) (fun _ _ _ => Y.neI rfl rfl) ?_
   refine tn 16 rfl hQ (fun _ _ _ => Y.pickF _ c48 rfl rfl) ?_
   refine dn ?_
   refine GX.keep [51, 8, 6] rfl ?_
   exact hK41 _ _ _ ⟨(l2 e65 (l2 e69 e73)), rfl, rfl⟩
  rintro _ S75 _ ⟨e76, rfl, rfl⟩
  refine GX.then hK40 ?_
  refine G.cond _ rfl (fun c77 => ?_) (fun c77 => ?_)
  ·replace h := ite_t c77 h
   refine sr (fun _ hK78 => ?_)
   refine lb 1 0 8 [sV (.int .i64 a1.len), sL a1.bits, sL a1.sum, sV (.int .i64 a1.at_), sV (.int .i64 a0.len), sL a0.bits, sL a0.sum, sV (.int .i64 a0.at_)] row31 ?_
   refine sf 2 8 [sV (.int .i64 a1.len), sL a1.bits, sL a1.sum, sV (.int .i64 a1.at_), sV (.int .i64 a0.len), sL a0.bits, sL a0.sum, sV (.int .i64 a0.at_)] (aggV_cells _) (oI (oL (oL (oI (oI (oL (oL (oI oN)))))))) size31 ?_
   refine an ?_
   refine nt hK78 ?_
   refine G.ret ?_
   obtain rfl := Option.some.inj h
   exact hret _ _ _ _ 6 (l2 e18 (l2 e26 (l2 e35 e76))) (.cons (.row (k := 2) rfl rfl row31 (by kernel_rfl)) (.cons (.tmp rfl) .nil)) rfl rfl
  replace h := ite_f c77 h
  refine sk hK39 ?_
  refine sr (fun _ hK79 => ?_)
  refine lb 1 0 8 [sV (.int .i64 a1.len), sL a1.bits, sL a1.sum, sV (.int .i64 a1.at_), sV (.int .i64 a0.len), sL a0.bits, sL a0.sum, sV (.int .i64 a0.at_)] row31 ?_
  refine sf 2 8 [sV (.int .i64 a1.len), sL a1.bits, sL a1.sum, sV (.int .i64 a1.at_), sV (.int .i64 a0.len), sL a0.bits, sL a0.sum, sV (.int .i64 a0.at_)] (aggV_cells _) (oI (oL (oL (oI (oI (oL (oL (oI oN)))))))) size31 ?_
  refine an ?_
  refine nt hK79 ?_
  refine G.ret ?_
  obtain rfl := Option.some.inj h
  exact hret _ _ _ _ 6 (l2 e18 (l2 e26 (l2 e35 e76))) (.cons (.row (k := 2) rfl rfl row31 (by kernel_rfl)) (.cons (.tmp rfl) .nil)) rfl rfl
 replace h := ite_f c20 h
 refine sk hK13 ?_
 refine G.seq (fun _ hK80 => ?_)
 refine sr (fun _ hK81 => ?_)
 refine lb 0 0 8 [sV (.int .i64 a0.len), sL a0.bits, sL a0.sum, sV (.int .i64 a0.at_), sV (.int .i64 a1.len), sL a1.bits, sL a1.sum, sV (.int .i64 a1.at_)] row31 ?_
 refine vl (Y.mkI rfl stt31) ?_
 obtain ⟨t82, wt82, h⟩ := bind_some' h
 refine st (cl fb52 (node_Check_ok (Nd.inner (⟨a0, a1⟩ : Inner)) wt82) (fun v83 S84 e85 z86 => ?_))
 obtain rfl := z86
 refine an ?_
 refine nt hK81 ?_
 refine sr (fun _ hK87 => ?_)
 refine mv ?_
 refine vl (Y.neI rfl rfl) ?_
 refine nt hK87 ?_
 refine G.cond _ rfl (fun c88 => ?_) (fun c88 => ?_)
 ·replace h := ite_t c88 h
  refine sr (fun _ hK89 => ?_)
  refine lb 0 0 8 [sV (.int .i64 a0.len), sL a0.bits, sL a0.sum, sV (.int .i64 a0.at_), sV (.int .i64 a1.len), sL a1.bits, sL a1.sum, sV (.int .i64 a1.at_)] row31 ?_
  refine mv ?_
  refine sf 1 8 [sV (.int .i64 a0.len), sL a0.bits, sL a0.sum, sV (.int .i64 a0.at_), sV (.int .i64 a1.len), sL a1.bits, sL a1.sum, sV (.int .i64 a1.at_)] (aggV_cells _) (oI (oL (oL (oI (oI (oL (oL (oI oN)))))))) size31 ?_
  refine an ?_
  refine nt hK89 ?_
  refine G.ret ?_
  obtain rfl := Option.some.inj h
  exact hret _ _ _ _ 5 (l2 e18 e85) (.cons (.row (k := 1) rfl rfl row31 (by kernel_rfl)) (.cons (.tmp rfl) .nil)) rfl rfl
 replace h := ite_f c88 h
 refine sk hK80 ?_
 refine sr (fun _ hK90 => ?_)
 refine lb 0 0 8 [sV (.int .i64 a0.len), sL a0.bits, sL a0.sum, sV (.int .i64 a0.at_), sV (.int .i64 a1.len), sL a1.bits, sL a1.sum, sV (.int .i64 a1.at_)] row31 ?_
 obtain ⟨t91, wt91, h⟩ := bind_some' h
 refine st (cl fb46 (node_Inner_Item_ok (⟨a0, a1⟩ : Inner) wt91) (fun v92 S93 e94 z95 => ?_))
 obtain rfl := z95
 refine vl (Y.field 0 2 [sV (.int .i64 t91.len), sL t91.bits] rfl ⟨_, _, Tryz.underlying29, rfl, rfl, rfl⟩ rfl rfl row27 (by kernel_rfl)) ?_
 refine st (OS.alloc _ (by decide) zero27 (fun ad96 => ?_))
 refine sf 0 2 [sV (.int .i64 t91.len), sL t91.bits] (aggV_cells _) (oI (oL oN)) size27 ?_
 refine nt hK90 ?_
 refine G.seq (fun _ hK98 => ?_)
 refine G.seq (fun _ hK99 => ?_)
 obtain ⟨b101, wb101, h⟩ := bind_some' h
 refine G.cut (fun E₀ S₀ L₀ => S93.le S₀ ∧ E₀ = [(51, .bool b101), (8, .pointer (some ⟨ad11, 0, none⟩)), (6, .pointer (some ⟨ad8, 0, none⟩))] ∧ Blk ad96 [sV (.int .i64 t91.len), sL t91.bits] :: Blk ad11 [sV (.int .i64 a0.len), sL a0.bits, sL a0.sum, sV (.int .i64 a0.at_), sV (.int .i64 a1.len), sL a1.bits, sL a1.sum, sV (.int .i64 a1.at_)] :: Blk ad8 [sV (.int .i64 0), sL zL, sL zL, sV (.int .i64 0), sV (.int .i64 0), sL zL, sL zL, sV (.int .i64 0)] :: Blk ad6 [sL a2] :: Blk ad4 [sV (.int .i64 a1.len), sL a1.bits, sL a1.sum, sV (.int .i64 a1.at_)] :: Blk ad2 [sV (.int .i64 a0.len), sL a0.bits, sL a0.sum, sV (.int .i64 a0.at_)] :: F = L₀) (fun K100 hK100 => ?_) ?_
 ·replace h := wb101
  obtain ⟨t102, wt102, h⟩ := bind_some' h
  rcases Bool.eq_false_or_eq_true (!t102) with c107 | c107
  ·replace h := ite_t c107 h
   obtain rfl := Option.some.inj h
   refine G.drawN 17 mixed (by kernel_rfl) ?_
   refine tn 0 rfl hQ (fun S₀ X₀ e₀ => Y.loadB (X₀.length + 0)  0 2 [sV (.int .i64 t91.len), sL t91.bits] rfl (Lk rfl) rfl rfl row27 (by kernel_rfl)) ?_
   refine tn 1 rfl hQ (fun S₀ X₀ e₀ => Y.loadB (X₀.length + 3)  0 1 [sL a2] rfl (Lk rfl) rfl rfl row23 (by kernel_rfl)) ?_
   refine g1 2 ?_
   refine n1 rfl (cl fb54 (bits_Prefix_Has_ok (⟨t91.len, t91.bits⟩ : Pfx) a2 wt102) (fun v108 S109 e110 z111 => ⟨⟨[], .refl, e110⟩, ?_⟩))
   obtain rfl := z111
   refine tn 3 rfl hQ (fun _ _ _ => Y.not rfl) ?_
   refine tn 4 rfl hQ (fun _ _ _ => Y.move rfl) ?_
   refine tf 5 rfl .refl hQ (gn 39 c107) ?_
   refine tf 6 rfl .refl hQ (gn 39 c107) ?_
   refine tf 7 rfl .refl hQ (gn 39 c107) ?_
   refine tf 8 rfl .refl hQ (gn 39 c107) ?_
   refine tf 9 rfl .refl hQ (gn 39 c107) ?_
   refine tf 10 rfl .refl hQ (gn 39 c107) ?_
   refine tf 11 rfl .refl hQ (gn 39 c107) ?_
   refine tf 12 rfl .refl hQ (gn 39 c107) ?_
   refine tf 13 rfl .refl hQ (gn 39 c107) ?_
   refine tf 14 rfl .refl hQ (gn 39 c107) ?_
   refine tf 15 rfl .refl hQ (gn 39 c107) ?_
   refine tn 16 rfl hQ (fun _ _ _ => Y.pickT _ c107 rfl rfl) ?_
   refine dn ?_
   refine GX.keep [51, 8, 6] rfl ?_
   exact hK100 _ _ _ ⟨e110, rfl, rfl⟩
  replace h := ite_f c107 h
  obtain ⟨t112, wt112, h⟩ := bind_some' h
  obtain ⟨t117, wt117, h⟩ := bind_some' h
  obtain rfl := Option.some.inj h
  refine G.drawN 17 mixed (by kernel_rfl) ?_
  refine tn 0 rfl hQ (fun S₀ X₀ e₀ => Y.loadB (X₀.length + 0)  0 2 [sV (.int .i64 t91.len), sL t91.bits] rfl (Lk rfl) rfl rfl row27 (by kernel_rfl)) ?_
  refine tn 1 rfl hQ (fun S₀ X₀ e₀ => Y.loadB (X₀.length + 3)  0 1 [sL a2] rfl (Lk rfl) rfl rfl row23 (by kernel_rfl)) ?_
  refine g1 2 ?_
  refine n1 rfl (cl fb54 (bits_Prefix_Has_ok (⟨t91.len, t91.bits⟩ : Pfx) a2 wt102) (fun v122 S123 e124 z125 => ⟨⟨[], .refl, e124⟩, ?_⟩))
  obtain rfl := z125
  refine tn 3 rfl hQ (fun _ _ _ => Y.not rfl) ?_
  refine tn 4 rfl hQ (fun _ _ _ => Y.move rfl) ?_
  refine tw 5 rfl .refl hQ (gi 39 c107) (fun S₀ X₀ e₀ => Y.loadB (X₀.length + 3)  0 1 [sL a2] rfl (Lk rfl) rfl rfl row23 (by kernel_rfl)) ?_
  refine tw 6 rfl .refl hQ (gi 39 c107) (fun _ _ _ => Y.fieldAddr 0 rfl fld27_0 rfl) ?_
  refine tw 7 rfl .refl hQ (gi 39 c107) (fun S₀ X₀ e₀ => Y.loadV (X₀.length + 0)  0 _ rfl (Lk rfl) rfl rfl one3) ?_
  refine tw 9 rfl .refl hQ (gi 39 c107) (fun _ _ _ => Y.fieldAddr 0 rfl fld29_0 rfl) ?_
  refine tw 10 rfl .refl hQ (gi 39 c107) (fun _ _ _ => Y.fieldAddr 1 rfl fld27_1 rfl) ?_
  refine tw 11 rfl .refl hQ (gi 39 c107) (fun S₀ X₀ e₀ => Y.loadB (X₀.length + 5)  1 1 [sL a0.bits] rfl (Lk rfl) rfl rfl row23 (by kernel_rfl)) ?_
  refine tw 12 rfl .refl hQ (gi 39 c107) (fun _ _ _ => Y.fieldAddr 0 rfl fld27_0 rfl) ?_
  refine tw 13 rfl .refl hQ (gi 39 c107) (fun S₀ X₀ e₀ => Y.loadV (X₀.length + 0)  0 _ rfl (Lk rfl) rfl rfl one3) ?_
  refine g1 8 ?_
  refine GD1.on rfl (gi 39 c107) (by kernel_rfl) (cl fb48 (bits_Bit_ok a2 t91.len wt112) (fun v126 S127 e128 z129 => ⟨⟨[], .refl, (l2 e124 e128)⟩, ?_⟩))
  obtain rfl := z129
  refine g1 14 ?_
  refine GD1.on rfl (gi 39 c107) (by kernel_rfl) (cl fb48 (bits_Bit_ok a0.bits t91.len wt117) (fun v130 S131 e132 z133 => ⟨⟨[], .refl, (l2 e124 (l2 e128 e132))⟩, ?_⟩))
  obtain rfl := z133
  refine tw 15 rfl .refl hQ (gi 39 c107) (fun _ _ _ => Y.neI rfl rfl) ?_
  refine tn 16 rfl hQ (fun _ _ _ => Y.pickF _ c107 rfl rfl) ?_
  refine dn ?_
  refine GX.keep [51, 8, 6] rfl ?_
  exact hK100 _ _ _ ⟨(l2 e124 (l2 e128 e132)), rfl, rfl⟩
 rintro _ S134 _ ⟨e135, rfl, rfl⟩
 refine GX.then hK99 ?_
 refine G.cond _ rfl (fun c136 => ?_) (fun c136 => ?_)
 ·replace h := ite_t c136 h
  refine sr (fun _ hK137 => ?_)
  refine lb 1 0 8 [sV (.int .i64 a0.len), sL a0.bits, sL a0.sum, sV (.int .i64 a0.at_), sV (.int .i64 a1.len), sL a1.bits, sL a1.sum, sV (.int .i64 a1.at_)] row31 ?_
  refine sf 2 8 [sV (.int .i64 a0.len), sL a0.bits, sL a0.sum, sV (.int .i64 a0.at_), sV (.int .i64 a1.len), sL a1.bits, sL a1.sum, sV (.int .i64 a1.at_)] (aggV_cells _) (oI (oL (oL (oI (oI (oL (oL (oI oN)))))))) size31 ?_
  refine an ?_
  refine nt hK137 ?_
  refine G.ret ?_
  obtain rfl := Option.some.inj h
  exact hret _ _ _ _ 6 (l2 e18 (l2 e85 (l2 e94 e135))) (.cons (.row (k := 2) rfl rfl row31 (by kernel_rfl)) (.cons (.tmp rfl) .nil)) rfl rfl
 replace h := ite_f c136 h
 refine sk hK98 ?_
 refine sr (fun _ hK138 => ?_)
 refine lb 1 0 8 [sV (.int .i64 a0.len), sL a0.bits, sL a0.sum, sV (.int .i64 a0.at_), sV (.int .i64 a1.len), sL a1.bits, sL a1.sum, sV (.int .i64 a1.at_)] row31 ?_
 refine sf 2 8 [sV (.int .i64 a0.len), sL a0.bits, sL a0.sum, sV (.int .i64 a0.at_), sV (.int .i64 a1.len), sL a1.bits, sL a1.sum, sV (.int .i64 a1.at_)] (aggV_cells _) (oI (oL (oL (oI (oI (oL (oL (oI oN)))))))) size31 ?_
 refine an ?_
 refine nt hK138 ?_
 refine G.ret ?_
 obtain rfl := Option.some.inj h
 exact hret _ _ _ _ 6 (l2 e18 (l2 e85 (l2 e94 e135))) (.cons (.row (k := 2) rfl rfl row31 (by kernel_rfl)) (.cons (.tmp rfl) .nil)) rfl rfl

/- (chirograph/proof.Proof).Nodes -/
def proof_Proof_Nodes_s1 (a0 : Proof) (a1 : Lab) : (Int × (List Nd) × Int × Lab × Lab × Int) → Option ((Int × (List Nd) × Int × Lab × Lab × Int) ⊕ ((List Nd) × Int ⊕ (Int × (List Nd) × Int × Lab × Lab × Int)))
 | (x61, x62, x64, x65, x66, x67) => (if (decide (x61 < (lenI a0.path))) = true then ((req ((0 : Int) ≤ x61 ∧ x61 < lenI a0.path)).bind fun _ => ((proof_up (⟨x64, x65, x66, x67⟩ : Item) (getI a0.path x61) a1).bind fun t84 => (if (t84.2 != (0 : Int)) = true then some (.inr (.inl ([], t84.2))) else ((req (List.length x62 + List.length ([(Nd.inner t84.1)] : List Nd) ≤ LIM)).bind fun _ => ((node_Inner_Item t84.1).bind fun t99 => some (.inl ((wrap64 (x61 + (1 : Int))), (x62 ++ ([(Nd.inner t84.1)] : List Nd)), t99.len, t99.bits, t99.sum, t99.at_))))))) else some (.inr (.inr (x61, x62, x64, x65, x66, x67))))

def proof_Proof_Nodes_s2 (a0 : Proof) (a1 : Lab) : (Int × (List Nd) × Int × Lab × Lab × Int) → Option ((Int × (List Nd) × Int × Lab × Lab × Int) ⊕ ((List Nd) × Int ⊕ (Int × (List Nd) × Int × Lab × Lab × Int)))
 | (x166, x167, x169, x170, x171, x172) => (if (decide (x166 < (lenI a0.path))) = true then ((req ((0 : Int) ≤ x166 ∧ x166 < lenI a0.path)).bind fun _ => ((proof_up (⟨x169, x170, x171, x172⟩ : Item) (getI a0.path x166) a1).bind fun t189 => (if (t189.2 != (0 : Int)) = true then some (.inr (.inl ([], t189.2))) else ((req (List.length x167 + List.length ([(Nd.inner t189.1)] : List Nd) ≤ LIM)).bind fun _ => ((node_Inner_Item t189.1).bind fun t204 => some (.inl ((wrap64 (x166 + (1 : Int))), (x167 ++ ([(Nd.inner t189.1)] : List Nd)), t204.len, t204.bits, t204.sum, t204.at_))))))) else some (.inr (.inr (x166, x167, x169, x170, x171, x172))))

def proof_Proof_Nodes  (a0 : Proof) (a1 : Lab) : Option ((List Nd) × Int) :=
 (if (decide ((256 : Int) < (lenI a0.path))) = true then some ([], (2 : Int)) else (if (a0.end_ == (0 : Int)) = true then (if (decide ((0 : Int) < (lenI a0.path))) = true then some ([], (3 : Int)) else some ([], (0 : Int))) else (if (a0.end_ == (1 : Int)) = true then ((node_Check (Nd.leaf a0.leaf)).bind fun t29 => (if (t29 != (0 : Int)) = true then some ([], t29) else ((req (List.length ([] : List Nd) + List.length ([(Nd.leaf a0.leaf)] : List Nd) ≤ LIM)).bind fun _ => ((node_Leaf_Item a0.leaf).bind fun t42 => ((iter (proof_Proof_Nodes_s1 a0 a1) ((0 : Int), (([] : List Nd) ++ ([(Nd.leaf a0.leaf)] : List Nd)), t42.len, t42.bits, t42.sum, t42.at_)).bind fun b69 => (match b69 with | .inl r₀ => some r₀ | .inr (x61, x62, x64, x65, x66, x67) => some (x62, (0 : Int)))))))) else (if (a0.end_ == (2 : Int)) = true then ((node_Check (Nd.inner (⟨a0.a, a0.b⟩ : Inner))).bind fun t125 => (if (t125 != (0 : Int)) = true then some ([], t125) else ((req (List.length ([] : List Nd) + List.length ([(Nd.inner (⟨a0.a, a0.b⟩ : Inner))] : List Nd) ≤ LIM)).bind fun _ => ((node_Inner_Item (⟨a0.a, a0.b⟩ : Inner)).bind fun t139 => ((bits_Prefix_Has (⟨t139.len, t139.bits⟩ : Pfx) a1).bind fun t155 => (if t155 = true then some ([], (11 : Int)) else ((iter (proof_Proof_Nodes_s2 a0 a1) ((0 : Int), (([] : List Nd) ++ ([(Nd.inner (⟨a0.a, a0.b⟩ : Inner))] : List Nd)), t139.len, t139.bits, t139.sum, t139.at_)).bind fun b174 => (match b174 with | .inl r₀ => some r₀ | .inr (x166, x167, x169, x170, x171, x172) => some (x167, (0 : Int)))))))))) else some ([], (1 : Int))))))

theorem proof_Proof_Nodes_ok {S : Hp} (a0 : Proof) (a1 : Lab) {v1 : Value} (q2 : Sls S v1 a0.path) {r : (List Nd) × Int} (h : proof_Proof_Nodes a0 a1 = some r) : Fn Tryz.prog 14 [aggV [sV (.int .i64 a0.end_), sL a0.leaf.label, sL a0.leaf.value, sV (.int .i64 a0.leaf.at_), sV (.int .i64 a0.a.len), sL a0.a.bits, sL a0.a.sum, sV (.int .i64 a0.a.at_), sV (.int .i64 a0.b.len), sL a0.b.bits, sL a0.b.sum, sV (.int .i64 a0.b.at_), sV v1], aggV [sL a1]] S (fun v S' => ∃ (v0₁ : Value), v = .tuple #[v0₁, .int .i64 r.2] ∧ Sls S' v0₁ r.1) := by
 unfold proof_Proof_Nodes at h
 refine fo [.tmp 4, .tmp 5] 92 Tryz.func14 Tryz.ntmps14 (fun o F Q hQ hN hret => ?_)
 refine sr (fun _ hK3 => ?_)
 refine st (OS.boxA (by decide) rfl (fun ad4 => ?_))
 refine st (OS.boxA (by decide) rfl (fun ad6 => ?_))
 refine an ?_
 refine an ?_
 refine nt hK3 ?_
 refine G.seq (fun _ hK8 => ?_)
 refine sr (fun _ hK9 => ?_)
 refine vl (Y.fieldAddr 198 rfl fld34_3 rfl) ?_
 refine lv 1 12 one32 ?_
 refine vl (Y.lenS rfl q2 slc32) ?_
 refine vl (Y.gtI rfl rfl) ?_
 refine nt hK9 ?_
 refine G.cond _ rfl (fun c10 => ?_) (fun c10 => ?_)
 ·replace h := ite_t c10 h
  refine sr (fun _ hK11 => ?_)
  refine an ?_
  refine an ?_
  refine nt hK11 ?_
  refine G.ret ?_
  obtain rfl := Option.some.inj h
  exact hret _ _ _ _ 2 l0 (.cons (.tmp rfl) (.cons (.tmp rfl) .nil)) ⟨_, rfl, (Sls.nil (α := Nd) _)⟩ rfl
 replace h := ite_f c10 h
 refine sk hK8 ?_
 refine sr (fun _ hK12 => ?_)
 refine an ?_
 refine nt hK12 ?_
 refine sr (fun _ hK13 => ?_)
 refine st (OS.alloc _ (by decide) zero29 (fun ad14 => ?_))
 refine nt hK13 ?_
 refine G.seq (fun _ hK16 => ?_)
 refine sr (fun _ hK17 => ?_)
 refine vl (Y.fieldAddr 0 rfl fld34_0 rfl) ?_
 refine lv 2 0 one3 ?_
 refine nt hK17 ?_
 refine G.block ?_
 refine sr (fun _ hK18 => ?_)
 refine vl (Y.eqI rfl rfl) ?_
 refine an ?_
 refine nt hK18 ?_
 refine G.cond _ rfl (fun c19 => ?_) (fun c19 => ?_)
 ·replace h := ite_t c19 h
  refine G.seq (fun _ hK20 => ?_)
  refine sr (fun _ hK21 => ?_)
  refine vl (Y.fieldAddr 198 rfl fld34_3 rfl) ?_
  refine lv 2 12 one32 ?_
  refine vl (Y.lenS rfl q2 slc32) ?_
  refine vl (Y.gtI rfl rfl) ?_
  refine nt hK21 ?_
  refine G.cond _ rfl (fun c22 => ?_) (fun c22 => ?_)
  ·replace h := ite_t c22 h
   refine sr (fun _ hK23 => ?_)
   refine an ?_
   refine an ?_
   refine nt hK23 ?_
   refine G.ret ?_
   obtain rfl := Option.some.inj h
   exact hret _ _ _ _ 3 l0 (.cons (.tmp rfl) (.cons (.tmp rfl) .nil)) ⟨_, rfl, (Sls.nil (α := Nd) _)⟩ rfl
  replace h := ite_f c22 h
  refine sk hK20 ?_
  refine sr (fun _ hK24 => ?_)
  refine an ?_
  refine an ?_
  refine nt hK24 ?_
  refine G.ret ?_
  obtain rfl := Option.some.inj h
  exact hret _ _ _ _ 3 l0 (.cons (.tmp rfl) (.cons (.tmp rfl) .nil)) ⟨_, rfl, (Sls.nil (α := Nd) _)⟩ rfl
 replace h := ite_f c19 h
 refine sr (fun _ hK25 => ?_)
 refine vl (Y.eqI rfl rfl) ?_
 refine an ?_
 refine nt hK25 ?_
 refine G.cond _ rfl (fun c26 => ?_) (fun c26 => ?_)
 ·replace h := ite_t c26 h
  refine G.seq (fun _ hK27 => ?_)
  refine sr (fun _ hK28 => ?_)
  refine vl (Y.fieldAddr 1 rfl fld34_1 rfl) ?_
  refine lb 2 1 3 [sL a0.leaf.label, sL a0.leaf.value, sV (.int .i64 a0.leaf.at_)] row25 ?_
  refine vl (Y.mkI rfl stt25) ?_
  obtain ⟨t29, wt29, h⟩ := bind_some' h
  refine st (cl fb52 (node_Check_ok (Nd.leaf a0.leaf) wt29) (fun v30 S31 e32 z33 => ?_))
  replace q2 := q2.up e32
  obtain rfl := z33
  refine an ?_
  refine nt hK28 ?_
  refine sr (fun _ hK34 => ?_)
  refine mv ?_
  refine vl (Y.neI rfl rfl) ?_
  refine nt hK34 ?_
  refine G.cond _ rfl (fun c35 => ?_) (fun c35 => ?_)
  ·replace h := ite_t c35 h
   refine sr (fun _ hK36 => ?_)
   refine mv ?_
   refine an ?_
   refine an ?_
   refine nt hK36 ?_
   refine G.ret ?_
   obtain rfl := Option.some.inj h
   exact hret _ _ _ _ 3 e32 (.cons (.tmp rfl) (.cons (.tmp rfl) .nil)) ⟨_, rfl, (Sls.nil (α := Nd) _)⟩ rfl
  replace h := ite_f c35 h
  refine sk hK27 ?_
  obtain ⟨g39, h⟩ := req_bind h
  obtain ⟨t42, wt42, h⟩ := bind_some' h
  refine G.drawS 10 _ ((fun _ => True) :: Blk ad6 [sL a1] :: Blk ad4 [sV (.int .i64 a0.end_), sL a0.leaf.label, sL a0.leaf.value, sV (.int .i64 a0.leaf.at_), sV (.int .i64 a0.a.len), sL a0.a.bits, sL a0.a.sum, sV (.int .i64 a0.a.at_), sV (.int .i64 a0.b.len), sL a0.b.bits, sL a0.b.sum, sV (.int .i64 a0.b.at_), sV v1] :: F) mixed .refl (by kernel_rfl) ?_
  refine tx 0 rfl (.lose .refl) hQ (fun _ _ _ => Y.move rfl) ?_
  refine tx 1 rfl (.lose .refl) hQ (fun _ _ _ => Y.fieldAddr 1 rfl fld34_1 rfl) ?_
  refine tx 2 rfl (.lose .refl) hQ (fun S₀ X₀ e₀ => Y.loadB (X₀.length + 2)  1 3 [sL a0.leaf.label, sL a0.leaf.value, sV (.int .i64 a0.leaf.at_)] rfl (Lk rfl) rfl rfl row25 (by kernel_rfl)) ?_
  refine tx 3 rfl (.lose .refl) hQ (fun _ _ _ => Y.mkI rfl stt25) ?_
  refine tx 6 rfl (.lose .refl) hQ (fun _ _ _ => Y.fieldAddr 1 rfl fld34_1 rfl) ?_
  refine tx 7 rfl (.lose .refl) hQ (fun S₀ X₀ e₀ => Y.loadB (X₀.length + 2)  1 3 [sL a0.leaf.label, sL a0.leaf.value, sV (.int .i64 a0.leaf.at_)] rfl (Lk rfl) rfl rfl row25 (by kernel_rfl)) ?_
  refine g1 4 ?_
  refine n1 rfl (OS.buildSliceE ([(Nd.leaf a0.leaf)] : List Nd) (by decide) el55 rfl (Nat.le_of_ble_eq_true rfl) rfl ⟨rfl, rfl⟩ (fun v48 => ⟨⟨[_], (.same .refl), l0⟩, ?_⟩))
  refine GDr.nilRow (α := Nd) ?_
  refine g1 5 ?_
  refine n1 rfl (OS.append (xs := ([] : List Nd)) (ys := ([(Nd.leaf a0.leaf)] : List Nd)) 0 (by decide) rfl rfl rfl (Rw.src (k := 1) rfl) el55 src55 g39 (fun v50 => ⟨⟨[_, _], (.same (.same .refl)), l0⟩, ?_⟩))
  refine g1 8 ?_
  refine n1 rfl (cl fb53 (node_Leaf_Item_ok a0.leaf wt42) (fun v52 S53 e54 z55 => ⟨⟨[_, _], (.same (.same .refl)), e54⟩, ?_⟩))
  have q56 := q2.up e54
  obtain rfl := z55
  refine tx 9 rfl (.lose .refl) hQ (fun _ _ _ => Y.assign rfl) ?_
  refine g1 10 ?_
  refine n2 rfl (OS.store 2 0 4 [sV (.int .i64 t42.len), sL t42.bits, sL t42.sum, sV (.int .i64 t42.at_)] (r := [sV (.int .i64 t42.len), sL t42.bits, sL t42.sum, sV (.int .i64 t42.at_)]) rfl rfl (aggV_cells _) (oI (oL (oL (oI oN)))) rfl rfl size29 (by kernel_rfl) (by kernel_rfl) (by kernel_rfl) ⟨⟨[_, _], (.same (.same (.lose .refl))), e54⟩, ?_⟩)
  refine dn ?_
  refine GX.normal_block ?_
  refine GX.then hK16 ?_
  refine G.seq (fun _ hK57 => ?_)
  refine sr (fun _ hK58 => ?_)
  refine vl (Y.fieldAddr 198 rfl fld34_3 rfl) ?_
  refine lv 4 12 one32 ?_
  refine vl (Y.lenS rfl q56 slc32) ?_
  refine mv ?_
  refine nt hK58 ?_
  refine G.block ?_
  obtain ⟨b69, wb69, ho70⟩ := bind_some' h
  refine G.keep [69, 68, 67, 6, 7, 3] rfl ?_
  refine G.loopK (proof_Proof_Nodes_s1 a0 a1) (fun s₀ E' S' L' => match s₀ with | (x61, x62, x64, x65, x66, x67) => S53.le S' ∧ ∃ (v63 : Value), E' = [(69, .int .i64 x61), (68, .int .i64 (lenI a0.path)), (67, v1), (6, v63), (7, .pointer (some ⟨ad14, 0, none⟩)), (3, .pointer (some ⟨ad6, 0, none⟩))] ∧ Rw v63 x62 :: Rw v48 ([(Nd.leaf a0.leaf)] : List Nd) :: Blk ad14 [sV (.int .i64 x64), sL x65, sL x66, sV (.int .i64 x67)] :: Blk ad6 [sL a1] :: Blk ad4 [sV (.int .i64 a0.end_), sL a0.leaf.label, sL a0.leaf.value, sV (.int .i64 a0.leaf.at_), sV (.int .i64 a0.a.len), sL a0.a.bits, sL a0.a.sum, sV (.int .i64 a0.a.at_), sV (.int .i64 a0.b.len), sL a0.b.bits, sL a0.b.sum, sV (.int .i64 a0.b.at_), sV v1] :: F = L') b69 1 (fun E₀ S₀ L₀ => ∃ (x61 : Int) (x62 : (List Nd)) (x64 : Int) (x65 : Lab) (x66 : Lab) (x67 : Int) (v63 : Value), S53.le S₀ ∧ b69 = .inr (x61, x62, x64, x65, x66, x67) ∧ E₀ = [(6, v63)] ∧ Rw v63 x62 :: Rw v48 ([(Nd.leaf a0.leaf)] : List Nd) :: Blk ad14 [sV (.int .i64 x64), sL x65, sL x66, sV (.int .i64 x67)] :: Blk ad6 [sL a1] :: Blk ad4 [sV (.int .i64 a0.end_), sL a0.leaf.label, sL a0.leaf.value, sV (.int .i64 a0.leaf.at_), sV (.int .i64 a0.a.len), sL a0.a.bits, sL a0.a.sum, sV (.int .i64 a0.a.at_), sV (.int .i64 a0.b.len), sL a0.b.bits, sL a0.b.sum, sV (.int .i64 a0.b.at_), sV v1] :: F = L₀) wb69 ?_ ?_ ?_
  ·rintro _ S115 _ ⟨x61, x62, x64, x65, x66, x67, v63, e116, rfl, rfl, rfl⟩
   have h := ho70; clear ho70
   try dsimp only at h
   replace q56 := q56.up e116
   refine GX.exit_block ?_
   refine GX.then hK57 ?_
   refine sr (fun _ hK117 => ?_)
   refine mv ?_
   refine an ?_
   refine an ?_
   refine nt hK117 ?_
   refine G.ret ?_
   refine GX.shareR 0 rfl (fun S118 e119 q120 => ?_)
   replace q56 := q56.up e119
   obtain rfl := Option.some.inj h
   exact hret _ _ _ _ 5 (l2 e32 (l2 e54 (l2 e116 e119))) (.cons (.tmp rfl) (.cons (.tmp rfl) .nil)) ⟨_, rfl, q120⟩ rfl
  ·exact ⟨Hp.le_refl _, v50, rfl, rfl⟩
  rintro ⟨x61, x62, x64, x65, x66, x67⟩ _ S59 _ ⟨e60, v63, rfl, rfl⟩ out1 h hf1 K1 hK1 hx68
  rw [proof_Proof_Nodes_s1] at h
  replace q56 := q56.up e60
  refine sr (fun _ hK71 => ?_)
  refine vl (Y.ltI rfl rfl) ?_
  refine nt hK71 ?_
  refine G.seq (fun _ hK72 => ?_)
  refine G.cond _ rfl (fun c73 => ?_) (fun c73 => ?_)
  ·replace h := ite_t c73 h
   refine sk hK72 ?_
   refine G.seq (fun _ hK74 => ?_)
   refine G.block ?_
   refine sr (fun _ hK75 => ?_)
   obtain ⟨g76, h⟩ := req_bind h
   obtain ⟨ad77, p78, z79, q80⟩ := Sls.at q56 g76
   refine vl (Y.idxS rfl z79 rfl slc32 g76) ?_
   refine vl (Y.loadS [sV (.int .i64 ((getI a0.path x61).len)), sL ((getI a0.path x61).bits), sL ((getI a0.path x61).sum), sV (.int .i64 ((getI a0.path x61).at_))] rfl (At.part q80 0 4 _ rfl rfl) row29 (by kernel_rfl)) ?_
   refine st (OS.alloc _ (by decide) zero29 (fun ad81 => ?_))
   refine sf 0 4 [sV (.int .i64 ((getI a0.path x61).len)), sL ((getI a0.path x61).bits), sL ((getI a0.path x61).sum), sV (.int .i64 ((getI a0.path x61).at_))] (aggV_cells _) (oI (oL (oL (oI oN)))) size29 ?_
   refine nt hK75 ?_
   refine sr (fun _ hK83 => ?_)
   refine lb 3 0 4 [sV (.int .i64 x64), sL x65, sL x66, sV (.int .i64 x67)] row29 ?_
   refine lb 0 0 4 [sV (.int .i64 ((getI a0.path x61).len)), sL ((getI a0.path x61).bits), sL ((getI a0.path x61).sum), sV (.int .i64 ((getI a0.path x61).at_))] row29 ?_
   refine lb 4 0 1 [sL a1] row23 ?_
   obtain ⟨t84, wt84, h⟩ := bind_some' h
   refine st (cl fb55 (proof_up_ok (⟨x64, x65, x66, x67⟩ : Item) (getI a0.path x61) a1 wt84) (fun v85 S86 e87 z88 => ?_))
   replace q56 := q56.up e87
   replace q80 := q80.up e87
   obtain rfl := z88
   refine mv ?_
   refine vl (Y.extract _ rfl rfl) ?_
   refine vl (Y.extract _ rfl rfl) ?_
   refine st (OS.alloc _ (by decide) zero31 (fun ad89 => ?_))
   refine sf 0 8 [sV (.int .i64 t84.1.l.len), sL t84.1.l.bits, sL t84.1.l.sum, sV (.int .i64 t84.1.l.at_), sV (.int .i64 t84.1.r.len), sL t84.1.r.bits, sL t84.1.r.sum, sV (.int .i64 t84.1.r.at_)] (aggV_cells _) (oI (oL (oL (oI (oI (oL (oL (oI oN)))))))) size31 ?_
   refine an ?_
   refine nt hK83 ?_
   refine G.seq (fun _ hK91 => ?_)
   refine sr (fun _ hK92 => ?_)
   refine mv ?_
   refine vl (Y.neI rfl rfl) ?_
   refine nt hK92 ?_
   refine G.cond _ rfl (fun c93 => ?_) (fun c93 => ?_)
   ·replace h := ite_t c93 h
    refine sr (fun _ hK94 => ?_)
    refine mv ?_
    refine an ?_
    refine an ?_
    refine nt hK94 ?_
    refine G.ret ?_
    obtain rfl := Option.some.inj h
    obtain rfl := hf1 _ rfl
    have h := ho70
    try dsimp only at h
    obtain rfl := Option.some.inj h
    exact hret _ _ _ _ 7 (l2 e32 (l2 e54 (l2 e60 e87))) (.cons (.tmp rfl) (.cons (.tmp rfl) .nil)) ⟨_, rfl, (Sls.nil (α := Nd) _)⟩ rfl
   replace h := ite_f c93 h
   refine sk hK91 ?_
   obtain ⟨g97, h⟩ := req_bind h
   obtain ⟨t99, wt99, h⟩ := bind_some' h
   refine G.drawS 4 _ (Blk ad89 [sV (.int .i64 t84.1.l.len), sL t84.1.l.bits, sL t84.1.l.sum, sV (.int .i64 t84.1.l.at_), sV (.int .i64 t84.1.r.len), sL t84.1.r.bits, sL t84.1.r.sum, sV (.int .i64 t84.1.r.at_)] :: Blk ad81 [sV (.int .i64 ((getI a0.path x61).len)), sL ((getI a0.path x61).bits), sL ((getI a0.path x61).sum), sV (.int .i64 ((getI a0.path x61).at_))] :: (fun _ => True) :: Rw v48 ([(Nd.leaf a0.leaf)] : List Nd) :: (fun _ => True) :: Blk ad6 [sL a1] :: Blk ad4 [sV (.int .i64 a0.end_), sL a0.leaf.label, sL a0.leaf.value, sV (.int .i64 a0.leaf.at_), sV (.int .i64 a0.a.len), sL a0.a.bits, sL a0.a.sum, sV (.int .i64 a0.a.at_), sV (.int .i64 a0.b.len), sL a0.b.bits, sL a0.b.sum, sV (.int .i64 a0.b.at_), sV v1] :: F) mixed .refl (by kernel_rfl) ?_
   refine tx 0 rfl (.same (.same (.lose (.same (.lose .refl))))) hQ (fun _ _ _ => Y.move rfl) ?_
   refine tx 1 rfl (.same (.same (.lose (.same (.lose .refl))))) hQ (fun S₀ X₀ e₀ => Y.loadB (X₀.length + 0)  0 8 [sV (.int .i64 t84.1.l.len), sL t84.1.l.bits, sL t84.1.l.sum, sV (.int .i64 t84.1.l.at_), sV (.int .i64 t84.1.r.len), sL t84.1.r.bits, sL t84.1.r.sum, sV (.int .i64 t84.1.r.at_)] rfl (Lk rfl) rfl rfl row31 (by kernel_rfl)) ?_
   refine tx 2 rfl (.same (.same (.lose (.same (.lose .refl))))) hQ (fun _ _ _ => Y.mkI rfl stt31) ?_
   refine tx 5 rfl (.same (.same (.lose (.same (.lose .refl))))) hQ (fun S₀ X₀ e₀ => Y.loadB (X₀.length + 0)  0 8 [sV (.int .i64 t84.1.l.len), sL t84.1.l.bits, sL t84.1.l.sum, sV (.int .i64 t84.1.l.at_), sV (.int .i64 t84.1.r.len), sL t84.1.r.bits, sL t84.1.r.sum, sV (.int .i64 t84.1.r.at_)] rfl (Lk rfl) rfl rfl row31 (by kernel_rfl)) ?_
   refine g1 3 ?_
   refine n1 rfl (OS.buildSliceE ([(Nd.inner t84.1)] : List Nd) (by decide) el55 rfl (Nat.le_of_ble_eq_true rfl) rfl ⟨rfl, rfl⟩ (fun v106 => ⟨⟨[_], (.same .refl), l0⟩, ?_⟩))
   refine g1 4 ?_
   refine n2 rfl (OS.append (xs := x62) (ys := ([(Nd.inner t84.1)] : List Nd)) 3 (by decide) rfl rfl rfl (Rw.src (k := 0) rfl) el55 src55 g97 (fun v108 => ⟨⟨[_], (.same (.same (.same (.lose (.same (.lose .refl)))))), l0⟩, ?_⟩))
   refine g1 6 ?_
   refine n2 rfl (cl fb46 (node_Inner_Item_ok t84.1 wt99) (fun v109 S110 e111 z112 => ⟨⟨[_], (.same (.same (.same (.lose (.same (.lose .refl)))))), e111⟩, ?_⟩))
   have q113 := q56.up e111
   have q114 := q80.up e111
   obtain rfl := z112
   refine tx 7 rfl (.same (.same (.lose (.same (.lose .refl))))) hQ (fun _ _ _ => Y.assign rfl) ?_
   refine g1 8 ?_
   refine n2 rfl (OS.store 5 0 4 [sV (.int .i64 t99.len), sL t99.bits, sL t99.sum, sV (.int .i64 t99.at_)] (r := [sV (.int .i64 t99.len), sL t99.bits, sL t99.sum, sV (.int .i64 t99.at_)]) rfl rfl (aggV_cells _) (oI (oL (oL (oI oN)))) rfl rfl size29 (by kernel_rfl) (by kernel_rfl) (by kernel_rfl) ⟨⟨[_], (.same (.same (.same (.lose (.same (.lose .refl)))))), e111⟩, ?_⟩)
   refine dn ?_
   refine GX.normal_block ?_
   refine GX.then hK74 ?_
   refine G.region ?_
   refine vl (Y.addI rfl rfl) ?_
   refine mv ?_
   refine GO.nil ?_
   obtain rfl := Option.some.inj h
   refine GX.keep [69, 68, 67, 6, 7, 3] rfl ?_
   refine GX.less 3 rfl ?_
   exact hK1 _ _ _ _ rfl ⟨(l2 e60 (l2 e87 e111)), v108, rfl, rfl⟩
  replace h := ite_f c73 h
  refine G.exit ?_
  refine GX.exit_then ?_
  obtain rfl := Option.some.inj h
  refine GX.keep [6] rfl ?_
  exact hx68 _ _ _ ⟨_, _, _, _, _, _, _, e60, (hf1 _ rfl).symm, rfl, rfl⟩
 replace h := ite_f c26 h
 refine sr (fun _ hK121 => ?_)
 refine vl (Y.eqI rfl rfl) ?_
 refine an ?_
 refine nt hK121 ?_
 refine G.cond _ rfl (fun c122 => ?_) (fun c122 => ?_)
 ·replace h := ite_t c122 h
  refine G.seq (fun _ hK123 => ?_)
  refine sr (fun _ hK124 => ?_)
  refine vl (Y.fieldAddr 66 rfl fld34_2 rfl) ?_
  refine lb 2 4 8 [sV (.int .i64 a0.a.len), sL a0.a.bits, sL a0.a.sum, sV (.int .i64 a0.a.at_), sV (.int .i64 a0.b.len), sL a0.b.bits, sL a0.b.sum, sV (.int .i64 a0.b.at_)] row31 ?_
  refine vl (Y.mkI rfl stt31) ?_
  obtain ⟨t125, wt125, h⟩ := bind_some' h
  refine st (cl fb52 (node_Check_ok (Nd.inner (⟨a0.a, a0.b⟩ : Inner)) wt125) (fun v126 S127 e128 z129 => ?_))
  replace q2 := q2.up e128
  obtain rfl := z129
  refine an ?_
  refine nt hK124 ?_
  refine sr (fun _ hK130 => ?_)
  refine mv ?_
  refine vl (Y.neI rfl rfl) ?_
  refine nt hK130 ?_
  refine G.cond _ rfl (fun c131 => ?_) (fun c131 => ?_)
  ·replace h := ite_t c131 h
   refine sr (fun _ hK132 => ?_)
   refine mv ?_
   refine an ?_
   refine an ?_
   refine nt hK132 ?_
   refine G.ret ?_
   obtain rfl := Option.some.inj h
   exact hret _ _ _ _ 3 e128 (.cons (.tmp rfl) (.cons (.tmp rfl) .nil)) ⟨_, rfl, (Sls.nil (α := Nd) _)⟩ rfl
  replace h := ite_f c131 h
  refine sk hK123 ?_
  refine G.seq (fun _ hK133 => ?_)
  obtain ⟨g136, h⟩ := req_bind h
  obtain ⟨t139, wt139, h⟩ := bind_some' h
  refine G.drawS 10 _ ((fun _ => True) :: Blk ad6 [sL a1] :: Blk ad4 [sV (.int .i64 a0.end_), sL a0.leaf.label, sL a0.leaf.value, sV (.int .i64 a0.leaf.at_), sV (.int .i64 a0.a.len), sL a0.a.bits, sL a0.a.sum, sV (.int .i64 a0.a.at_), sV (.int .i64 a0.b.len), sL a0.b.bits, sL a0.b.sum, sV (.int .i64 a0.b.at_), sV v1] :: F) mixed .refl (by kernel_rfl) ?_
  refine tx 0 rfl (.lose .refl) hQ (fun _ _ _ => Y.move rfl) ?_
  refine tx 1 rfl (.lose .refl) hQ (fun _ _ _ => Y.fieldAddr 66 rfl fld34_2 rfl) ?_
  refine tx 2 rfl (.lose .refl) hQ (fun S₀ X₀ e₀ => Y.loadB (X₀.length + 2)  4 8 [sV (.int .i64 a0.a.len), sL a0.a.bits, sL a0.a.sum, sV (.int .i64 a0.a.at_), sV (.int .i64 a0.b.len), sL a0.b.bits, sL a0.b.sum, sV (.int .i64 a0.b.at_)] rfl (Lk rfl) rfl rfl row31 (by kernel_rfl)) ?_
  refine tx 3 rfl (.lose .refl) hQ (fun _ _ _ => Y.mkI rfl stt31) ?_
  refine tx 6 rfl (.lose .refl) hQ (fun _ _ _ => Y.fieldAddr 66 rfl fld34_2 rfl) ?_
  refine tx 7 rfl (.lose .refl) hQ (fun S₀ X₀ e₀ => Y.loadB (X₀.length + 2)  4 8 [sV (.int .i64 a0.a.len), sL a0.a.bits, sL a0.a.sum, sV (.int .i64 a0.a.at_), sV (.int .i64 a0.b.len), sL a0.b.bits, sL a0.b.sum, sV (.int .i64 a0.b.at_)] rfl (Lk rfl) rfl rfl row31 (by kernel_rfl)) ?_
  refine g1 4 ?_
  refine n1 rfl (OS.buildSliceE ([(Nd.inner (⟨a0.a, a0.b⟩ : Inner))] : List Nd) (by decide) el55 rfl (Nat.le_of_ble_eq_true rfl) rfl ⟨rfl, rfl⟩ (fun v145 => ⟨⟨[_], (.same .refl), l0⟩, ?_⟩))
  refine GDr.nilRow (α := Nd) ?_
  refine g1 5 ?_
  refine n1 rfl (OS.append (xs := ([] : List Nd)) (ys := ([(Nd.inner (⟨a0.a, a0.b⟩ : Inner))] : List Nd)) 0 (by decide) rfl rfl rfl (Rw.src (k := 1) rfl) el55 src55 g136 (fun v147 => ⟨⟨[_, _], (.same (.same .refl)), l0⟩, ?_⟩))
  refine g1 8 ?_
  refine n1 rfl (cl fb46 (node_Inner_Item_ok (⟨a0.a, a0.b⟩ : Inner) wt139) (fun v149 S150 e151 z152 => ⟨⟨[_, _], (.same (.same .refl)), e151⟩, ?_⟩))
  have q153 := q2.up e151
  obtain rfl := z152
  refine tx 9 rfl (.lose .refl) hQ (fun _ _ _ => Y.assign rfl) ?_
  refine g1 10 ?_
  refine n2 rfl (OS.store 2 0 4 [sV (.int .i64 t139.len), sL t139.bits, sL t139.sum, sV (.int .i64 t139.at_)] (r := [sV (.int .i64 t139.len), sL t139.bits, sL t139.sum, sV (.int .i64 t139.at_)]) rfl rfl (aggV_cells _) (oI (oL (oL (oI oN)))) rfl rfl size29 (by kernel_rfl) (by kernel_rfl) (by kernel_rfl) ⟨⟨[_, _], (.same (.same (.lose .refl))), e151⟩, ?_⟩)
  refine dn ?_
  refine GX.then hK133 ?_
  refine sr (fun _ hK154 => ?_)
  refine vl (Y.fieldAddr 0 rfl fld29_0 rfl) ?_
  refine lb 2 0 2 [sV (.int .i64 t139.len), sL t139.bits] row27 ?_
  refine lb 3 0 1 [sL a1] row23 ?_
  obtain ⟨t155, wt155, h⟩ := bind_some' h
  refine st (cl fb54 (bits_Prefix_Has_ok (⟨t139.len, t139.bits⟩ : Pfx) a1 wt155) (fun v156 S157 e158 z159 => ?_))
  replace q153 := q153.up e158
  obtain rfl := z159
  refine nt hK154 ?_
  refine G.cond _ rfl (fun c160 => ?_) (fun c160 => ?_)
  ·replace h := ite_t c160 h
   refine sr (fun _ hK161 => ?_)
   refine an ?_
   refine an ?_
   refine nt hK161 ?_
   refine G.ret ?_
   obtain rfl := Option.some.inj h
   exact hret _ _ _ _ 5 (l2 e128 (l2 e151 e158)) (.cons (.tmp rfl) (.cons (.tmp rfl) .nil)) ⟨_, rfl, (Sls.nil (α := Nd) _)⟩ rfl
  replace h := ite_f c160 h
  refine G.skip ?_
  refine GX.normal_block ?_
  refine GX.then hK16 ?_
  refine G.seq (fun _ hK162 => ?_)
  refine sr (fun _ hK163 => ?_)
  refine vl (Y.fieldAddr 198 rfl fld34_3 rfl) ?_
  refine lv 4 12 one32 ?_
  refine vl (Y.lenS rfl q153 slc32) ?_
  refine mv ?_
  refine nt hK163 ?_
  refine G.block ?_
  obtain ⟨b174, wb174, ho175⟩ := bind_some' h
  refine G.keep [69, 68, 67, 6, 7, 3] rfl ?_
  refine G.loopK (proof_Proof_Nodes_s2 a0 a1) (fun s₀ E' S' L' => match s₀ with | (x166, x167, x169, x170, x171, x172) => S157.le S' ∧ ∃ (v168 : Value), E' = [(69, .int .i64 x166), (68, .int .i64 (lenI a0.path)), (67, v1), (6, v168), (7, .pointer (some ⟨ad14, 0, none⟩)), (3, .pointer (some ⟨ad6, 0, none⟩))] ∧ Rw v168 x167 :: Rw v145 ([(Nd.inner (⟨a0.a, a0.b⟩ : Inner))] : List Nd) :: Blk ad14 [sV (.int .i64 x169), sL x170, sL x171, sV (.int .i64 x172)] :: Blk ad6 [sL a1] :: Blk ad4 [sV (.int .i64 a0.end_), sL a0.leaf.label, sL a0.leaf.value, sV (.int .i64 a0.leaf.at_), sV (.int .i64 a0.a.len), sL a0.a.bits, sL a0.a.sum, sV (.int .i64 a0.a.at_), sV (.int .i64 a0.b.len), sL a0.b.bits, sL a0.b.sum, sV (.int .i64 a0.b.at_), sV v1] :: F = L') b174 1 (fun E₀ S₀ L₀ => ∃ (x166 : Int) (x167 : (List Nd)) (x169 : Int) (x170 : Lab) (x171 : Lab) (x172 : Int) (v168 : Value), S157.le S₀ ∧ b174 = .inr (x166, x167, x169, x170, x171, x172) ∧ E₀ = [(6, v168)] ∧ Rw v168 x167 :: Rw v145 ([(Nd.inner (⟨a0.a, a0.b⟩ : Inner))] : List Nd) :: Blk ad14 [sV (.int .i64 x169), sL x170, sL x171, sV (.int .i64 x172)] :: Blk ad6 [sL a1] :: Blk ad4 [sV (.int .i64 a0.end_), sL a0.leaf.label, sL a0.leaf.value, sV (.int .i64 a0.leaf.at_), sV (.int .i64 a0.a.len), sL a0.a.bits, sL a0.a.sum, sV (.int .i64 a0.a.at_), sV (.int .i64 a0.b.len), sL a0.b.bits, sL a0.b.sum, sV (.int .i64 a0.b.at_), sV v1] :: F = L₀) wb174 ?_ ?_ ?_
  ·rintro _ S220 _ ⟨x166, x167, x169, x170, x171, x172, v168, e221, rfl, rfl, rfl⟩
   have h := ho175; clear ho175
   try dsimp only at h
   replace q153 := q153.up e221
   refine GX.exit_block ?_
   refine GX.then hK162 ?_
   refine sr (fun _ hK222 => ?_)
   refine mv ?_
   refine an ?_
   refine an ?_
   refine nt hK222 ?_
   refine G.ret ?_
   refine GX.shareR 0 rfl (fun S223 e224 q225 => ?_)
   replace q153 := q153.up e224
   obtain rfl := Option.some.inj h
   exact hret _ _ _ _ 5 (l2 e128 (l2 e151 (l2 e158 (l2 e221 e224)))) (.cons (.tmp rfl) (.cons (.tmp rfl) .nil)) ⟨_, rfl, q225⟩ rfl
  ·exact ⟨Hp.le_refl _, v147, rfl, rfl⟩
  rintro ⟨x166, x167, x169, x170, x171, x172⟩ _ S164 _ ⟨e165, v168, rfl, rfl⟩ out2 h hf2 K2 hK2 hx173
  rw [proof_Proof_Nodes_s2] at h
  replace q153 := q153.up e165
  refine sr (fun _ hK176 => ?_)
  refine vl (Y.ltI rfl rfl) ?_
  refine nt hK176 ?_
  refine G.seq (fun _ hK177 => ?_)
  refine G.cond _ rfl (fun c178 => ?_) (fun c178 => ?_)
  ·replace h := ite_t c178 h
   refine sk hK177 ?_
   refine G.seq (fun _ hK179 => ?_)
   refine G.block ?_
   refine sr (fun _ hK180 => ?_)
   obtain ⟨g181, h⟩ := req_bind h
   obtain ⟨ad182, p183, z184, q185⟩ := Sls.at q153 g181
   refine vl (Y.idxS rfl z184 rfl slc32 g181) ?_
   refine vl (Y.loadS [sV (.int .i64 ((getI a0.path x166).len)), sL ((getI a0.path x166).bits), sL ((getI a0.path x166).sum), sV (.int .i64 ((getI a0.path x166).at_))] rfl (At.part q185 0 4 _ rfl rfl) row29 (by kernel_rfl)) ?_
   refine st (OS.alloc _ (by decide) zero29 (fun ad186 => ?_))
   refine sf 0 4 [sV (.int .i64 ((getI a0.path x166).len)), sL ((getI a0.path x166).bits), sL ((getI a0.path x166).sum), sV (.int .i64 ((getI a0.path x166).at_))] (aggV_cells _) (oI (oL (oL (oI oN)))) size29 ?_
   refine nt hK180 ?_
   refine sr (fun _ hK188 => ?_)
   refine lb 3 0 4 [sV (.int .i64 x169), sL x170, sL x171, sV (.int .i64 x172)] row29 ?_
   refine lb 0 0 4 [sV (.int .i64 ((getI a0.path x166).len)), sL ((getI a0.path x166).bits), sL ((getI a0.path x166).sum), sV (.int .i64 ((getI a0.path x166).at_))] row29 ?_
   refine lb 4 0 1 [sL a1] row23 ?_
   obtain ⟨t189, wt189, h⟩ := bind_some' h
   refine st (cl fb55 (proof_up_ok (⟨x169, x170, x171, x172⟩ : Item) (getI a0.path x166) a1 wt189) (fun v190 S191 e192 z193 => ?_))
   replace q153 := q153.up e192
   replace q185 := q185.up e192
   obtain rfl := z193
   refine mv ?_
   refine vl (Y.extract _ rfl rfl) ?_
   refine vl (Y.extract _ rfl rfl) ?_
   refine st (OS.alloc _ (by decide) zero31 (fun ad194 => ?_))
   refine sf 0 8 [sV (.int .i64 t189.1.l.len), sL t189.1.l.bits, sL t189.1.l.sum, sV (.int .i64 t189.1.l.at_), sV (.int .i64 t189.1.r.len), sL t189.1.r.bits, sL t189.1.r.sum, sV (.int .i64 t189.1.r.at_)] (aggV_cells _) (oI (oL (oL (oI (oI (oL (oL (oI oN)))))))) size31 ?_
   refine an ?_
   refine nt hK188 ?_
   refine G.seq (fun _ hK196 => ?_)
   refine sr (fun _ hK197 => ?_)
   refine mv ?_
   refine vl (Y.neI rfl rfl) ?_
   refine nt hK197 ?_
   refine G.cond _ rfl (fun c198 => ?_) (fun c198 => ?_)
   ·replace h := ite_t c198 h
    refine sr (fun _ hK199 => ?_)
    refine mv ?_
    refine an ?_
    refine an ?_
    refine nt hK199 ?_
    refine G.ret ?_
    obtain rfl := Option.some.inj h
    obtain rfl := hf2 _ rfl
    have h := ho175
    try dsimp only at h
    obtain rfl := Option.some.inj h
    exact hret _ _ _ _ 7 (l2 e128 (l2 e151 (l2 e158 (l2 e165 e192)))) (.cons (.tmp rfl) (.cons (.tmp rfl) .nil)) ⟨_, rfl, (Sls.nil (α := Nd) _)⟩ rfl
   replace h := ite_f c198 h
   refine sk hK196 ?_
   obtain ⟨g202, h⟩ := req_bind h
   obtain ⟨t204, wt204, h⟩ := bind_some' h
   refine G.drawS 4 _ (Blk ad194 [sV (.int .i64 t189.1.l.len), sL t189.1.l.bits, sL t189.1.l.sum, sV (.int .i64 t189.1.l.at_), sV (.int .i64 t189.1.r.len), sL t189.1.r.bits, sL t189.1.r.sum, sV (.int .i64 t189.1.r.at_)] :: Blk ad186 [sV (.int .i64 ((getI a0.path x166).len)), sL ((getI a0.path x166).bits), sL ((getI a0.path x166).sum), sV (.int .i64 ((getI a0.path x166).at_))] :: (fun _ => True) :: Rw v145 ([(Nd.inner (⟨a0.a, a0.b⟩ : Inner))] : List Nd) :: (fun _ => True) :: Blk ad6 [sL a1] :: Blk ad4 [sV (.int .i64 a0.end_), sL a0.leaf.label, sL a0.leaf.value, sV (.int .i64 a0.leaf.at_), sV (.int .i64 a0.a.len), sL a0.a.bits, sL a0.a.sum, sV (.int .i64 a0.a.at_), sV (.int .i64 a0.b.len), sL a0.b.bits, sL a0.b.sum, sV (.int .i64 a0.b.at_), sV v1] :: F) mixed .refl (by kernel_rfl) ?_
   refine tx 0 rfl (.same (.same (.lose (.same (.lose .refl))))) hQ (fun _ _ _ => Y.move rfl) ?_
   refine tx 1 rfl (.same (.same (.lose (.same (.lose .refl))))) hQ (fun S₀ X₀ e₀ => Y.loadB (X₀.length + 0)  0 8 [sV (.int .i64 t189.1.l.len), sL t189.1.l.bits, sL t189.1.l.sum, sV (.int .i64 t189.1.l.at_), sV (.int .i64 t189.1.r.len), sL t189.1.r.bits, sL t189.1.r.sum, sV (.int .i64 t189.1.r.at_)] rfl (Lk rfl) rfl rfl row31 (by kernel_rfl)) ?_
   refine tx 2 rfl (.same (.same (.lose (.same (.lose .refl))))) hQ (fun _ _ _ => Y.mkI rfl stt31) ?_
   refine tx 5 rfl (.same (.same (.lose (.same (.lose .refl))))) hQ (fun S₀ X₀ e₀ => Y.loadB (X₀.length + 0)  0 8 [sV (.int .i64 t189.1.l.len), sL t189.1.l.bits, sL t189.1.l.sum, sV (.int .i64 t189.1.l.at_), sV (.int .i64 t189.1.r.len), sL t189.1.r.bits, sL t189.1.r.sum, sV (.int .i64 t189.1.r.at_)] rfl (Lk rfl) rfl rfl row31 (by kernel_rfl)) ?_
   refine g1 3 ?_
   refine n1 rfl (OS.buildSliceE ([(Nd.inner t189.1)] : List Nd) (by decide) el55 rfl (Nat.le_of_ble_eq_true rfl) rfl ⟨rfl, rfl⟩ (fun v211 => ⟨⟨[_], (.same .refl), l0⟩, ?_⟩))
   refine g1 4 ?_
   refine n2 rfl (OS.append (xs := x167) (ys := ([(Nd.inner t189.1)] : List Nd)) 3 (by decide) rfl rfl rfl (Rw.src (k := 0) rfl) el55 src55 g202 (fun v213 => ⟨⟨[_], (.same (.same (.same (.lose (.same (.lose .refl)))))), l0⟩, ?_⟩))
   refine g1 6 ?_
   refine n2 rfl (cl fb46 (node_Inner_Item_ok t189.1 wt204) (fun v214 S215 e216 z217 => ⟨⟨[_], (.same (.same (.same (.lose (.same (.lose .refl)))))), e216⟩, ?_⟩))
   have q218 := q153.up e216
   have q219 := q185.up e216
   obtain rfl := z217
   refine tx 7 rfl (.same (.same (.lose (.same (.lose .refl))))) hQ (fun _ _ _ => Y.assign rfl) ?_
   refine g1 8 ?_
   refine n2 rfl (OS.store 5 0 4 [sV (.int .i64 t204.len), sL t204.bits, sL t204.sum, sV (.int .i64 t204.at_)] (r := [sV (.int .i64 t204.len), sL t204.bits, sL t204.sum, sV (.int .i64 t204.at_)]) rfl rfl (aggV_cells _) (oI (oL (oL (oI oN)))) rfl rfl size29 (by kernel_rfl) (by kernel_rfl) (by kernel_rfl) ⟨⟨[_], (.same (.same (.same (.lose (.same (.lose .refl)))))), e216⟩, ?_⟩)
   refine dn ?_
   refine GX.normal_block ?_
   refine GX.then hK179 ?_
   refine G.region ?_
   refine vl (Y.addI rfl rfl) ?_
   refine mv ?_
   refine GO.nil ?_
   obtain rfl := Option.some.inj h
   refine GX.keep [69, 68, 67, 6, 7, 3] rfl ?_
   refine GX.less 3 rfl ?_
   exact hK2 _ _ _ _ rfl ⟨(l2 e165 (l2 e192 e216)), v213, rfl, rfl⟩
  replace h := ite_f c178 h
  refine G.exit ?_
  refine GX.exit_then ?_
  obtain rfl := Option.some.inj h
  refine GX.keep [6] rfl ?_
  exact hx173 _ _ _ ⟨_, _, _, _, _, _, _, e165, (hf2 _ rfl).symm, rfl, rfl⟩
 replace h := ite_f c122 h
 refine sr (fun _ hK226 => ?_)
 refine an ?_
 refine an ?_
 refine nt hK226 ?_
 refine G.ret ?_
 obtain rfl := Option.some.inj h
 exact hret _ _ _ _ 3 l0 (.cons (.tmp rfl) (.cons (.tmp rfl) .nil)) ⟨_, rfl, (Sls.nil (α := Nd) _)⟩ rfl

end
end Go.Ch
end
section
/- Functions of the program: what each comes to, proved. -/
set_option linter.unusedVariables false
set_option linter.unusedSimpArgs false
set_option maxRecDepth 100000
set_option maxHeartbeats 4000000
namespace Go.Ch
open Go.RowKit (wrap64)
open Go.Proofs
noncomputable section
/- slices.Clone[[]chirograph/node.Leaf,chirograph/node.Leaf] -/
def slices_Clone_Leaf (a0 : List Leaf) : Option (List Leaf) := (req (List.length ([] : List Leaf) + List.length a0 ≤ LIM)).bind fun _ => some ([] ++ a0)
theorem slices_Clone_Leaf_ok {S : Hp} (a0 : List Leaf) {va0 : Value} (qa0 : Sls S va0 a0) {r : List Leaf} (h : slices_Clone_Leaf a0 = some r) : FnN Tryz.prog 118 [va0] S (fun v S' A' => A' = Rw v r) := by
  unfold slices_Clone_Leaf at h
  obtain ⟨g, h⟩ := req_bind h
  obtain rfl := Option.some.inj h
  have hq := qa0
  obtain ⟨a, cap, rfl, hc, hx⟩ := hq
  refine Fn.ofN [.tmp 2] 8 Tryz.func118 rfl Tryz.ntmps118 (Nat.le_of_ble_eq_true rfl) rfl (fun o F Q hQ hN hret => ?_)
  refine G.seq (fun K1 hK1 => ?_)
  refine G.region ?_
  refine GO.val _ (by decide) (Y.assign rfl) ?_
  refine GO.nil ?_
  refine GX.then hK1 ?_
  refine G.seq (fun K2 hK2 => ?_)
  refine G.seq (fun K3 hK3 => ?_)
  refine G.region ?_
  refine GO.val _ (by decide) (Y.move rfl) ?_
  refine GO.val _ (by decide) (Y.eqNil rfl rfl slc35) ?_
  refine GO.nil ?_
  refine GX.then hK3 ?_
  refine G.cond _ rfl (fun c => ?_) (fun c => ?_)
  · have ha : a0 = [] := by
      rcases hx with hx | ⟨b, off, rfl, _⟩
      · exact hx
      · simp at c
    subst ha
    refine G.seq (fun K4 hK4 => ?_)
    refine G.region ?_
    refine GO.nilRow (α := Leaf) ?_
    refine GO.val _ (by decide) (Y.assign rfl) ?_
    refine GO.nil ?_
    refine GX.then hK4 ?_
    refine G.ret ?_
    exact hret _ _ _ _ _ 0 (Hp.le_refl _) (.cons (.tmp rfl) .nil) rfl rfl
  · refine G.skip ?_
    refine GX.then hK2 ?_
    refine G.seq (fun K5 hK5 => ?_)
    refine G.region ?_
    refine GO.step (OS.buildSliceE ([] : List Leaf) (by decide) el35 rfl (Nat.le_of_ble_eq_true rfl) rfl ⟨rfl, rfl⟩ (fun v5 => ?_))
    refine GO.val _ (by decide) (Y.move rfl) ?_
    refine GO.step (OS.append (xs := ([] : List Leaf)) (ys := a0) 0 (by decide) rfl rfl rfl qa0.src el35 src35 g (fun v6 => ?_))
    refine GO.val _ (by decide) (Y.assign rfl) ?_
    refine GO.nil ?_
    refine GX.then hK5 ?_
    refine G.ret ?_
    exact hret _ _ _ _ _ 0 (Hp.le_refl _) (.cons (.tmp rfl) .nil) rfl rfl

/- slices.insertionSortCmpFunc[chirograph/node.Leaf] -/
def slices_insertionSortCmpFunc_Leaf_s2 (a1 : Int) (a3 : (Leaf → Leaf → Option Int)) : (Int × (List Leaf)) → Option ((Int × (List Leaf)) ⊕ (Int × (List Leaf)))
 | (x16, x17) => ((if (decide (a1 < x16)) = true then ((req ((0 : Int) ≤ x16 ∧ x16 < lenI x17)).bind fun _ => ((req ((0 : Int) ≤ (wrap64 (x16 - (1 : Int))) ∧ (wrap64 (x16 - (1 : Int))) < lenI x17)).bind fun _ => ((a3 (getI x17 x16) (getI x17 (wrap64 (x16 - (1 : Int))))).bind fun t34 => some (decide (t34 < (0 : Int)))))) else some false).bind fun b24 => (if b24 = true then ((req ((0 : Int) ≤ (wrap64 (x16 - (1 : Int))) ∧ (wrap64 (x16 - (1 : Int))) < lenI x17)).bind fun _ => ((req ((0 : Int) ≤ x16 ∧ x16 < lenI x17)).bind fun _ => ((req ((0 : Int) ≤ x16 ∧ x16 < lenI x17)).bind fun _ => ((req ((0 : Int) ≤ (wrap64 (x16 - (1 : Int))) ∧ (wrap64 (x16 - (1 : Int))) < lenI (x17.set (Int.toNat x16) (getI x17 (wrap64 (x16 - (1 : Int))))))).bind fun _ => some (.inl ((wrap64 (x16 - (1 : Int))), ((x17.set (Int.toNat x16) (getI x17 (wrap64 (x16 - (1 : Int))))).set (Int.toNat (wrap64 (x16 - (1 : Int)))) (getI x17 x16)))))))) else some (.inr (x16, x17))))

def slices_insertionSortCmpFunc_Leaf_s1 (a1 : Int) (a2 : Int) (a3 : (Leaf → Leaf → Option Int)) : (Int × (List Leaf)) → Option ((Int × (List Leaf)) ⊕ (Int × (List Leaf)))
 | (x4, x5) => (if (decide (x4 < a2)) = true then ((iter (slices_insertionSortCmpFunc_Leaf_s2 a1 a3) (x4, x5)).bind fun b19 => (match b19 with | (x16, x17) => some (.inl ((wrap64 (x4 + (1 : Int))), x17)))) else some (.inr (x4, x5)))

def slices_insertionSortCmpFunc_Leaf  (a0 : (List Leaf)) (a1 : Int) (a2 : Int) (a3 : (Leaf → Leaf → Option Int)) : Option (List Leaf) :=
 ((iter (slices_insertionSortCmpFunc_Leaf_s1 a1 a2 a3) ((wrap64 (a1 + (1 : Int))), a0)).bind fun b7 => (match b7 with | (x4, x5) => some x5))

theorem slices_insertionSortCmpFunc_Leaf_ok {S : Hp} (a0 : (List Leaf)) (a1 : Int) (a2 : Int) (a3 : (Leaf → Leaf → Option Int)) {va0 : Value} {fv3 : Nat} {cp3 : List Value} (fb3 : FnB Tryz.prog fv3) (hc3 : ∀ S₁, S.le S₁ → ∀ (x0₁ : Leaf) (x1₁ : Leaf) (r₁ : Int), a3 x0₁ x1₁ = some r₁ → Fn Tryz.prog fv3 ([aggV [sL x0₁.label, sL x0₁.value, sV (.int .i64 x0₁.at_)], aggV [sL x1₁.label, sL x1₁.value, sV (.int .i64 x1₁.at_)]] ++ cp3) S₁ (fun v S' => v = .int .i64 r₁)) {r : (List Leaf)} (h : slices_insertionSortCmpFunc_Leaf a0 a1 a2 a3 = some r) : FnP Tryz.prog 199 [va0, .int .i64 a1, .int .i64 a2, fnV fv3 cp3] S (Rw va0 a0) (fun v S' A' => v = .tuple #[] ∧ A' = Rw va0 r) := by
 unfold slices_insertionSortCmpFunc_Leaf at h
 refine Fn.ofP [] 53 Tryz.func199 rfl Tryz.ntmps199 (Nat.le_of_ble_eq_true rfl) rfl (fun o F Q hQ hN hret => ?_)
 refine sr (fun _ hK1 => ?_)
 refine mv ?_
 refine vl (Y.addI rfl rfl) ?_
 refine an ?_
 refine nt hK1 ?_
 refine G.block ?_
 obtain ⟨b7, wb7, ho8⟩ := bind_some' h
 refine G.keep [8, 0, 1, 2, 3] rfl ?_
 refine G.loopK (slices_insertionSortCmpFunc_Leaf_s1 a1 a2 a3) (fun s₀ E' S' L' => match s₀ with | (x4, x5) => S.le S' ∧ E' = [(8, .int .i64 x4), (0, va0), (1, .int .i64 a1), (2, .int .i64 a2), (3, fnV fv3 cp3)] ∧ Rw va0 x5 :: F = L') b7 0 (fun E₀ S₀ L₀ => ∃ (x4 : Int) (x5 : (List Leaf)), S.le S₀ ∧ b7 = (x4, x5) ∧ E₀ = [] ∧ Rw va0 x5 :: F = L₀) wb7 ?_ ?_ ?_
 ·rintro _ S65 _ ⟨x4, x5, e66, rfl, rfl, rfl⟩
  have h := ho8; clear ho8
  try dsimp only at h
  refine GX.exit_block ?_
  refine GX.fall hN ?_
  obtain rfl := Option.some.inj h
  exact hret _ _ _ _ _ 0 e66 .nil ⟨rfl, rfl⟩ rfl
 ·exact ⟨Hp.le_refl _, rfl, rfl⟩
 rintro ⟨x4, x5⟩ _ S2 _ ⟨e3, rfl, rfl⟩ out1 h hf1 K1 hK1 hx6
 rw [slices_insertionSortCmpFunc_Leaf_s1] at h
 refine G.seq (fun _ hK9 => ?_)
 refine sr (fun _ hK10 => ?_)
 refine mv ?_
 refine mv ?_
 refine vl (Y.ltI rfl rfl) ?_
 refine nt hK10 ?_
 refine G.cond _ rfl (fun c11 => ?_) (fun c11 => ?_)
 ·replace h := ite_t c11 h
  refine sk hK9 ?_
  refine G.seq (fun _ hK12 => ?_)
  refine G.block ?_
  refine sr (fun _ hK13 => ?_)
  refine mv ?_
  refine an ?_
  refine nt hK13 ?_
  refine G.block ?_
  obtain ⟨b19, wb19, ho20⟩ := bind_some' h
  refine G.keep [9, 8, 0, 1, 2, 3] rfl ?_
  refine G.loopK (slices_insertionSortCmpFunc_Leaf_s2 a1 a3) (fun s₀ E' S' L' => match s₀ with | (x16, x17) => S2.le S' ∧ E' = [(9, .int .i64 x16), (8, .int .i64 x4), (0, va0), (1, .int .i64 a1), (2, .int .i64 a2), (3, fnV fv3 cp3)] ∧ Rw va0 x17 :: F = L') b19 2 (fun E₀ S₀ L₀ => ∃ (x16 : Int) (x17 : (List Leaf)), S2.le S₀ ∧ b19 = (x16, x17) ∧ E₀ = [(8, .int .i64 x4), (0, va0), (1, .int .i64 a1), (2, .int .i64 a2), (3, fnV fv3 cp3)] ∧ Rw va0 x17 :: F = L₀) wb19 ?_ ?_ ?_
  ·rintro _ S63 _ ⟨x16, x17, e64, rfl, rfl, rfl⟩
   have h := ho20; clear ho20
   try dsimp only at h
   refine GX.exit_block ?_
   refine GX.normal_block ?_
   refine GX.then hK12 ?_
   refine G.region ?_
   refine mv ?_
   refine vl (Y.addI rfl rfl) ?_
   refine an ?_
   refine GO.nil ?_
   obtain rfl := Option.some.inj h
   refine GX.keep [8, 0, 1, 2, 3] rfl ?_
   exact hK1 _ _ _ _ rfl ⟨(l2 e3 e64), rfl, rfl⟩
  ·exact ⟨Hp.le_refl _, rfl, rfl⟩
  rintro ⟨x16, x17⟩ _ S14 _ ⟨e15, rfl, rfl⟩ out2 h hf2 K2 hK2 hx18
  rw [slices_insertionSortCmpFunc_Leaf_s2] at h
  refine G.seq (fun _ hK21 => ?_)
  refine G.seq (fun _ hK22 => ?_)
  obtain ⟨b24, wb24, h⟩ := bind_some' h
  refine G.cut (fun E₀ S₀ L₀ => S14.le S₀ ∧ E₀ = [(34, .bool b24), (9, .int .i64 x16), (8, .int .i64 x4), (0, va0), (1, .int .i64 a1), (2, .int .i64 a2), (3, fnV fv3 cp3)] ∧ Rw va0 x17 :: F = L₀) (fun K23 hK23 => ?_) ?_
  ·replace h := wb24
   rcases Bool.eq_false_or_eq_true (decide (a1 < x16)) with c25 | c25
   ·replace h := ite_t c25 h
    obtain ⟨g26, h⟩ := req_bind h
    refine G.rowAt 0 rfl g26 (fun ad27 p28 z29 => ?_)
    obtain ⟨g30, h⟩ := req_bind h
    refine G.rowAt 0 rfl g30 (fun ad31 p32 z33 => ?_)
    obtain ⟨t34, wt34, h⟩ := bind_some' h
    obtain rfl := Option.some.inj h
    refine G.drawN 17 mixed (by kernel_rfl) ?_
    refine tn 0 rfl hQ (fun _ _ _ => Y.move rfl) ?_
    refine tn 1 rfl hQ (fun _ _ _ => Y.move rfl) ?_
    refine tn 2 rfl hQ (fun _ _ _ => Y.gtI rfl rfl) ?_
    refine tn 3 rfl hQ (fun _ _ _ => Y.move rfl) ?_
    refine tw 4 rfl .refl hQ (gi 21 c25) (fun _ _ _ => Y.move rfl) ?_
    refine tw 5 rfl .refl hQ (gi 21 c25) (fun _ _ _ => Y.move rfl) ?_
    refine tw 6 rfl .refl hQ (gi 21 c25) (fun _ _ _ => Y.move rfl) ?_
    refine tw 7 rfl .refl hQ (gi 21 c25) (fun _ _ _ => Y.idxR rfl z29 rfl slc35 g26) ?_
    refine tw 8 rfl .refl hQ (gi 21 c25) (fun S₀ X₀ e₀ => Y.loadRow (X₀.length + 0)  x16 0 3 [sL ((getI x17 x16).label), sL ((getI x17 x16).value), sV (.int .i64 ((getI x17 x16).at_))] rfl (Lk rfl) z29 g26 rfl rfl row25 (by kernel_rfl)) ?_
    refine tw 9 rfl .refl hQ (gi 21 c25) (fun _ _ _ => Y.move rfl) ?_
    refine tw 10 rfl .refl hQ (gi 21 c25) (fun _ _ _ => Y.move rfl) ?_
    refine tw 11 rfl .refl hQ (gi 21 c25) (fun _ _ _ => Y.subI rfl rfl) ?_
    refine tw 12 rfl .refl hQ (gi 21 c25) (fun _ _ _ => Y.idxR rfl z33 rfl slc35 g30) ?_
    refine tw 13 rfl .refl hQ (gi 21 c25) (fun S₀ X₀ e₀ => Y.loadRow (X₀.length + 0)  (wrap64 (x16 - (1 : Int))) 0 3 [sL ((getI x17 (wrap64 (x16 - (1 : Int)))).label), sL ((getI x17 (wrap64 (x16 - (1 : Int)))).value), sV (.int .i64 ((getI x17 (wrap64 (x16 - (1 : Int)))).at_))] rfl (Lk rfl) z33 g30 rfl rfl row25 (by kernel_rfl)) ?_
    refine g1 14 ?_
    refine GD1.on rfl (gi 21 c25) (by kernel_rfl) (OS.callV _ (by decide) rfl rfl fb3 (hc3 _ (l2 e3 e15) (getI x17 x16) (getI x17 (wrap64 (x16 - (1 : Int)))) _ wt34) (fun v39 S40 e41 z42 => ⟨⟨[], .refl, e41⟩, ?_⟩))
    obtain rfl := z42
    refine tw 15 rfl .refl hQ (gi 21 c25) (fun _ _ _ => Y.ltI rfl rfl) ?_
    refine tn 16 rfl hQ (fun _ _ _ => Y.pickT _ c25 rfl rfl) ?_
    refine dn ?_
    refine GX.keep [34, 9, 8, 0, 1, 2, 3] rfl ?_
    exact hK23 _ _ _ ⟨e41, rfl, rfl⟩
   replace h := ite_f c25 h
   obtain rfl := Option.some.inj h
   refine G.drawN 17 mixed (by kernel_rfl) ?_
   refine tn 0 rfl hQ (fun _ _ _ => Y.move rfl) ?_
   refine tn 1 rfl hQ (fun _ _ _ => Y.move rfl) ?_
   refine tn 2 rfl hQ (fun _ _ _ => Y.gtI rfl rfl) ?_
   refine tn 3 rfl hQ (fun _ _ _ => Y.move rfl) ?_
   refine tf 4 rfl .refl hQ (gn 21 c25) ?_
   refine tf 5 rfl .refl hQ (gn 21 c25) ?_
   refine tf 6 rfl .refl hQ (gn 21 c25) ?_
   refine tf 7 rfl .refl hQ (gn 21 c25) ?_
   refine tf 8 rfl .refl hQ (gn 21 c25) ?_
   refine tf 9 rfl .refl hQ (gn 21 c25) ?_
   refine tf 10 rfl .refl hQ (gn 21 c25) ?_
   refine tf 11 rfl .refl hQ (gn 21 c25) ?_
   refine tf 12 rfl .refl hQ (gn 21 c25) ?_
   refine tf 13 rfl .refl hQ (gn 21 c25) ?_
   refine tf 14 rfl .refl hQ (gn 21 c25) ?_
   refine tf 15 rfl .refl hQ (gn 21 c25) ?_
   refine tn 16 rfl hQ (fun _ _ _ => Y.pickF _ c25 rfl rfl) ?_
   refine dn ?_
   refine GX.keep [34, 9, 8, 0, 1, 2, 3] rfl ?_
   exact hK23 _ _ _ ⟨l0, rfl, rfl⟩
  rintro _ S43 _ ⟨e44, rfl, rfl⟩
  refine GX.then hK22 ?_
  refine G.cond _ rfl (fun c45 => ?_) (fun c45 => ?_)
  ·replace h := ite_t c45 h
   refine sk hK21 ?_
   refine G.seq (fun _ hK46 => ?_)
   refine G.block ?_
   obtain ⟨g47, h⟩ := req_bind h
   refine G.rowAt 0 rfl g47 (fun ad48 p49 z50 => ?_)
   obtain ⟨g51, h⟩ := req_bind h
   refine G.rowAt 0 rfl g51 (fun ad52 p53 z54 => ?_)
   obtain ⟨g55, h⟩ := req_bind h
   refine G.rowAt 0 rfl g55 (fun ad56 p57 z58 => ?_)
   obtain ⟨g59, h⟩ := req_bind h
   refine G.rowAt 0 rfl (by simpa [lenI] using g59) (fun ad60 p61 z62 => ?_)
   refine G.drawS 15 _ ((fun _ => True) :: F) mixed .refl (by kernel_rfl) ?_
   refine tx 0 rfl (.lose .refl) hQ (fun _ _ _ => Y.move rfl) ?_
   refine tx 1 rfl (.lose .refl) hQ (fun _ _ _ => Y.move rfl) ?_
   refine tx 2 rfl (.lose .refl) hQ (fun _ _ _ => Y.move rfl) ?_
   refine tx 3 rfl (.lose .refl) hQ (fun _ _ _ => Y.move rfl) ?_
   refine tx 4 rfl (.lose .refl) hQ (fun _ _ _ => Y.subI rfl rfl) ?_
   refine tx 5 rfl (.lose .refl) hQ (fun _ _ _ => Y.move rfl) ?_
   refine tx 6 rfl (.lose .refl) hQ (fun _ _ _ => Y.move rfl) ?_
   refine tx 7 rfl (.lose .refl) hQ (fun _ _ _ => Y.subI rfl rfl) ?_
   refine tx 8 rfl (.lose .refl) hQ (fun _ _ _ => Y.idxR rfl z50 rfl slc35 g47) ?_
   refine tk 9 [9, 15] rfl hQ Gd.none (fun S₀ X₀ e₀ => Y.loadRow (X₀.length + 0)  (wrap64 (x16 - (1 : Int))) 0 3 [sL ((getI x17 (wrap64 (x16 - (1 : Int)))).label), sL ((getI x17 (wrap64 (x16 - (1 : Int)))).value), sV (.int .i64 ((getI x17 (wrap64 (x16 - (1 : Int)))).at_))] rfl (Lk rfl) z50 g47 rfl rfl row25 (by kernel_rfl)) ?_
   refine tx 10 rfl (.lose .refl) hQ (fun _ _ _ => Y.move rfl) ?_
   refine tx 11 rfl (.lose .refl) hQ (fun _ _ _ => Y.move rfl) ?_
   refine tx 12 rfl (.lose .refl) hQ (fun _ _ _ => Y.idxR rfl z54 rfl slc35 g51) ?_
   refine tk 13 [13, 15] rfl hQ Gd.none (fun S₀ X₀ e₀ => Y.loadRow (X₀.length + 0)  x16 0 3 [sL ((getI x17 x16).label), sL ((getI x17 x16).value), sV (.int .i64 ((getI x17 x16).at_))] rfl (Lk rfl) z54 g51 rfl rfl row25 (by kernel_rfl)) ?_
   refine tx 14 rfl (.lose .refl) hQ (fun _ _ _ => Y.idxR rfl z58 rfl slc35 g55) ?_
   refine g1 15 ?_
   refine n2 rfl (OS.storeRow 0 x16 (getI x17 (wrap64 (x16 - (1 : Int)))) rfl rfl (aggV_cells _) rfl z58 g55 rfl size25 ⟨⟨[], (.lose .refl), l0⟩, ?_⟩)
   refine tx 16 rfl (.lose .refl) hQ (fun _ _ _ => Y.idxR rfl z62 rfl slc35 (by simpa [lenI] using g59)) ?_
   refine g1 17 ?_
   refine n2 rfl (OS.storeRow 0 (wrap64 (x16 - (1 : Int))) (getI x17 x16) rfl rfl (aggV_cells _) rfl z62 g59 rfl size25 ⟨⟨[], (.lose .refl), l0⟩, ?_⟩)
   refine dn ?_
   refine GX.normal_block ?_
   refine GX.then hK46 ?_
   refine G.region ?_
   refine mv ?_
   refine vl (Y.subI rfl rfl) ?_
   refine an ?_
   refine GO.nil ?_
   obtain rfl := Option.some.inj h
   refine GX.keep [9, 8, 0, 1, 2, 3] rfl ?_
   exact hK2 _ _ _ _ rfl ⟨(l2 e15 e44), rfl, rfl⟩
  replace h := ite_f c45 h
  refine G.exit ?_
  refine GX.exit_then ?_
  obtain rfl := Option.some.inj h
  refine GX.keep [8, 0, 1, 2, 3] rfl ?_
  exact hx18 _ _ _ ⟨_, _, (l2 e15 e44), (hf2 _ rfl).symm, rfl, rfl⟩
 replace h := ite_f c11 h
 refine G.exit ?_
 refine GX.exit_then ?_
 obtain rfl := Option.some.inj h
 refine GX.keep [] rfl ?_
 exact hx6 _ _ _ ⟨_, _, e3, (hf1 _ rfl).symm, rfl, rfl⟩

/- slices.stableCmpFunc[chirograph/node.Leaf] -/
def slices_stableCmpFunc_Leaf_s3 (a1 : Int) : (Int × Int) → Option ((Int × Int) ⊕ (Int × Int))
 | (x43, x44) => (if (decide (x43 ≤ a1)) = true then none else some (.inr (x43, x44)))

def slices_stableCmpFunc_Leaf_s2 (a1 : Int) : (Int) → Option ((Int) ⊕ (Int))
 | x32 => (if (decide (x32 < a1)) = true then ((iter (slices_stableCmpFunc_Leaf_s3 a1) ((wrap64 ((2 : Int) * x32)), (0 : Int))).bind fun b46 => (match b46 with | (x43, x44) => (if (decide ((wrap64 (x44 + x32)) < a1)) = true then none else some (.inl (wrap64 (x32 * (2 : Int))))))) else some (.inr x32))

def slices_stableCmpFunc_Leaf_s1 (a1 : Int) (a2 : (Leaf → Leaf → Option Int)) : (Int × Int × (List Leaf)) → Option ((Int × Int × (List Leaf)) ⊕ (Int × Int × (List Leaf)))
 | (x6, x7, x8) => (if (decide (x6 ≤ a1)) = true then ((slices_insertionSortCmpFunc_Leaf x8 x7 x6 a2).bind fun t16 => some (.inl ((wrap64 (x6 + (20 : Int))), x6, t16))) else some (.inr (x6, x7, x8)))

def slices_stableCmpFunc_Leaf (k : Nat) (a0 : (List Leaf)) (a1 : Int) (a2 : (Leaf → Leaf → Option Int)) : Option (List Leaf) :=
 ((iter (slices_stableCmpFunc_Leaf_s1 a1 a2) ((20 : Int), (0 : Int), a0)).bind fun b10 => (match b10 with | (x6, x7, x8) => ((slices_insertionSortCmpFunc_Leaf x8 x7 a1 a2).bind fun t25 => ((iter (slices_stableCmpFunc_Leaf_s2 a1) (20 : Int)).bind fun b34 => (match b34 with | x32 => some t25)))))

theorem slices_stableCmpFunc_Leaf_ok {S : Hp} (k : Nat) (a0 : (List Leaf)) (a1 : Int) (a2 : (Leaf → Leaf → Option Int)) {va0 : Value} {fv2 : Nat} {cp2 : List Value} (fb2 : FnB Tryz.prog fv2) (hc2 : ∀ S₁, S.le S₁ → ∀ (x0₁ : Leaf) (x1₁ : Leaf) (r₁ : Int), a2 x0₁ x1₁ = some r₁ → Fn Tryz.prog fv2 ([aggV [sL x0₁.label, sL x0₁.value, sV (.int .i64 x0₁.at_)], aggV [sL x1₁.label, sL x1₁.value, sV (.int .i64 x1₁.at_)]] ++ cp2) S₁ (fun v S' => v = .int .i64 r₁)) {r : (List Leaf)} (h : slices_stableCmpFunc_Leaf k a0 a1 a2 = some r) : FnP Tryz.prog 180 [va0, .int .i64 a1, fnV fv2 cp2] S (Rw va0 a0) (fun v S' A' => v = .tuple #[] ∧ A' = Rw va0 r) := by
 unfold slices_stableCmpFunc_Leaf at h
 refine Fn.ofP [] 63 Tryz.func180 rfl Tryz.ntmps180 (Nat.le_of_ble_eq_true rfl) rfl (fun o F Q hQ hN hret => ?_)
 refine sr (fun _ hK1 => ?_)
 refine an ?_
 refine nt hK1 ?_
 refine sr (fun _ hK2 => ?_)
 refine mv ?_
 refine an ?_
 refine an ?_
 refine nt hK2 ?_
 refine G.seq (fun _ hK3 => ?_)
 refine G.block ?_
 obtain ⟨b10, wb10, ho11⟩ := bind_some' h
 refine G.keep [8, 7, 6, 0, 1, 2] rfl ?_
 refine G.loopK (slices_stableCmpFunc_Leaf_s1 a1 a2) (fun s₀ E' S' L' => match s₀ with | (x6, x7, x8) => S.le S' ∧ E' = [(8, .int .i64 x6), (7, .int .i64 x7), (6, .int .i64 (20 : Int)), (0, va0), (1, .int .i64 a1), (2, fnV fv2 cp2)] ∧ Rw va0 x8 :: F = L') b10 0 (fun E₀ S₀ L₀ => ∃ (x6 : Int) (x7 : Int) (x8 : (List Leaf)), S.le S₀ ∧ b10 = (x6, x7, x8) ∧ E₀ = [(7, .int .i64 x7), (6, .int .i64 (20 : Int)), (0, va0), (1, .int .i64 a1), (2, fnV fv2 cp2)] ∧ Rw va0 x8 :: F = L₀) wb10 ?_ ?_ ?_
 ·rintro _ S22 _ ⟨x6, x7, x8, e23, rfl, rfl, rfl⟩
  have h := ho11; clear ho11
  try dsimp only at h
  refine GX.exit_block ?_
  refine GX.then hK3 ?_
  refine sr (fun _ hK24 => ?_)
  refine mv ?_
  refine mv ?_
  refine mv ?_
  refine mv ?_
  obtain ⟨t25, wt25, h⟩ := bind_some' h
  refine st (OS.callP 0 _ (by decide) rfl fb199 rfl (slices_insertionSortCmpFunc_Leaf_ok (fv3 := fv2) (cp3 := cp2) x8 x7 a1 a2 fb2 (fun S₁ e₁ => hc2 S₁ (l2 e23 e₁)) wt25) (fun v26 S27 _ e28 z29 => ?_))
  obtain ⟨rfl, rfl⟩ := z29
  refine nt hK24 ?_
  refine G.block ?_
  obtain ⟨b34, wb34, ho35⟩ := bind_some' h
  refine G.keep [6, 0, 1, 2] rfl ?_
  refine G.loopK (slices_stableCmpFunc_Leaf_s2 a1) (fun s₀ E' S' L' => match s₀ with | x32 => S27.le S' ∧ E' = [(6, .int .i64 x32), (0, va0), (1, .int .i64 a1), (2, fnV fv2 cp2)] ∧ Rw va0 t25 :: F = L') b34 2 (fun E₀ S₀ L₀ => ∃ (x32 : Int), S27.le S₀ ∧ b34 = x32 ∧ E₀ = [] ∧ Rw va0 t25 :: F = L₀) wb34 ?_ ?_ ?_
  ·rintro _ S64 _ ⟨x32, e65, rfl, rfl, rfl⟩
   have h := ho35; clear ho35
   try dsimp only at h
   refine GX.exit_block ?_
   refine GX.fall hN ?_
   obtain rfl := Option.some.inj h
   exact hret _ _ _ _ _ 0 (l2 e23 (l2 e28 e65)) .nil ⟨rfl, rfl⟩ rfl
  ·exact ⟨Hp.le_refl _, rfl, rfl⟩
  rintro x32 _ S30 _ ⟨e31, rfl, rfl⟩ out2 h hf2 K2 hK2 hx33
  rw [slices_stableCmpFunc_Leaf_s2] at h
  refine G.seq (fun _ hK36 => ?_)
  refine sr (fun _ hK37 => ?_)
  refine mv ?_
  refine mv ?_
  refine vl (Y.ltI rfl rfl) ?_
  refine nt hK37 ?_
  refine G.cond _ rfl (fun c38 => ?_) (fun c38 => ?_)
  ·replace h := ite_t c38 h
   refine sk hK36 ?_
   refine G.block ?_
   refine sr (fun _ hK39 => ?_)
   refine mv ?_
   refine vl (Y.mulI rfl rfl) ?_
   refine an ?_
   refine an ?_
   refine nt hK39 ?_
   refine G.seq (fun _ hK40 => ?_)
   refine G.block ?_
   obtain ⟨b46, wb46, ho47⟩ := bind_some' h
   refine G.keep [8, 7, 6, 0, 1, 2] rfl ?_
   refine G.loopK (slices_stableCmpFunc_Leaf_s3 a1) (fun s₀ E' S' L' => match s₀ with | (x43, x44) => S30.le S' ∧ E' = [(8, .int .i64 x43), (7, .int .i64 x44), (6, .int .i64 x32), (0, va0), (1, .int .i64 a1), (2, fnV fv2 cp2)] ∧ Rw va0 t25 :: F = L') b46 4 (fun E₀ S₀ L₀ => ∃ (x43 : Int) (x44 : Int), S30.le S₀ ∧ b46 = (x43, x44) ∧ E₀ = [(7, .int .i64 x44), (6, .int .i64 x32), (0, va0), (1, .int .i64 a1), (2, fnV fv2 cp2)] ∧ Rw va0 t25 :: F = L₀) wb46 ?_ ?_ ?_
   ·rintro _ S55 _ ⟨x43, x44, e56, rfl, rfl, rfl⟩
    have h := ho47; clear ho47
    try dsimp only at h
    refine GX.exit_block ?_
    refine GX.then hK40 ?_
    refine G.seq (fun _ hK57 => ?_)
    refine sr (fun _ hK58 => ?_)
    refine mv ?_
    refine mv ?_
    refine vl (Y.addI rfl rfl) ?_
    refine an ?_
    refine nt hK58 ?_
    refine sr (fun _ hK59 => ?_)
    refine mv ?_
    refine mv ?_
    refine vl (Y.ltI rfl rfl) ?_
    refine nt hK59 ?_
    refine G.cond _ rfl (fun c60 => ?_) (fun c60 => ?_)
    ·replace h := ite_t c60 h
     refine G.region ?_
     refine mv ?_
     refine mv ?_
     refine mv ?_
     refine mv ?_
     refine mv ?_
     exact absurd h (by simp)
    replace h := ite_f c60 h
    refine sk hK57 ?_
    refine G.region ?_
    refine mv ?_
    refine vl (Y.mulI rfl rfl) ?_
    refine an ?_
    refine GO.nil ?_
    refine GX.normal_block ?_
    obtain rfl := Option.some.inj h
    refine GX.keep [6, 0, 1, 2] rfl ?_
    exact hK2 _ _ _ _ rfl ⟨(l2 e31 e56), rfl, rfl⟩
   ·exact ⟨Hp.le_refl _, rfl, rfl⟩
   rintro ⟨x43, x44⟩ _ S41 _ ⟨e42, rfl, rfl⟩ out3 h hf3 K3 hK3 hx45
   rw [slices_stableCmpFunc_Leaf_s3] at h
   refine G.seq (fun _ hK48 => ?_)
   refine sr (fun _ hK49 => ?_)
   refine mv ?_
   refine mv ?_
   refine vl (Y.leI rfl rfl) ?_
   refine nt hK49 ?_
   refine G.cond _ rfl (fun c50 => ?_) (fun c50 => ?_)
   ·replace h := ite_t c50 h
    refine sk hK48 ?_
    refine G.block ?_
    refine sr (fun _ hK51 => ?_)
    refine mv ?_
    refine mv ?_
    refine mv ?_
    refine mv ?_
    refine vl (Y.addI rfl rfl) ?_
    refine mv ?_
    refine mv ?_
    exact absurd h (by simp)
   replace h := ite_f c50 h
   refine G.exit ?_
   refine GX.exit_then ?_
   obtain rfl := Option.some.inj h
   refine GX.keep [7, 6, 0, 1, 2] rfl ?_
   exact hx45 _ _ _ ⟨_, _, e42, (hf3 _ rfl).symm, rfl, rfl⟩
  replace h := ite_f c38 h
  refine G.exit ?_
  refine GX.exit_then ?_
  obtain rfl := Option.some.inj h
  refine GX.keep [] rfl ?_
  exact hx33 _ _ _ ⟨_, e31, (hf2 _ rfl).symm, rfl, rfl⟩
 ·exact ⟨Hp.le_refl _, rfl, rfl⟩
 rintro ⟨x6, x7, x8⟩ _ S4 _ ⟨e5, rfl, rfl⟩ out1 h hf1 K1 hK1 hx9
 rw [slices_stableCmpFunc_Leaf_s1] at h
 refine G.seq (fun _ hK12 => ?_)
 refine sr (fun _ hK13 => ?_)
 refine mv ?_
 refine mv ?_
 refine vl (Y.leI rfl rfl) ?_
 refine nt hK13 ?_
 refine G.cond _ rfl (fun c14 => ?_) (fun c14 => ?_)
 ·replace h := ite_t c14 h
  refine sk hK12 ?_
  refine G.block ?_
  refine sr (fun _ hK15 => ?_)
  refine mv ?_
  refine mv ?_
  refine mv ?_
  refine mv ?_
  obtain ⟨t16, wt16, h⟩ := bind_some' h
  refine st (OS.callP 0 _ (by decide) rfl fb199 rfl (slices_insertionSortCmpFunc_Leaf_ok (fv3 := fv2) (cp3 := cp2) x8 x7 x6 a2 fb2 (fun S₁ e₁ => hc2 S₁ (l2 e5 e₁)) wt16) (fun v17 S18 _ e19 z20 => ?_))
  obtain ⟨rfl, rfl⟩ := z20
  refine nt hK15 ?_
  refine sr (fun _ hK21 => ?_)
  refine mv ?_
  refine an ?_
  refine nt hK21 ?_
  refine G.region ?_
  refine mv ?_
  refine mv ?_
  refine vl (Y.addI rfl rfl) ?_
  refine an ?_
  refine GO.nil ?_
  refine GX.normal_block ?_
  obtain rfl := Option.some.inj h
  refine GX.keep [8, 7, 6, 0, 1, 2] rfl ?_
  exact hK1 _ _ _ _ rfl ⟨(l2 e5 e19), rfl, rfl⟩
 replace h := ite_f c14 h
 refine G.exit ?_
 refine GX.exit_then ?_
 obtain rfl := Option.some.inj h
 refine GX.keep [7, 6, 0, 1, 2] rfl ?_
 exact hx9 _ _ _ ⟨_, _, _, e5, (hf1 _ rfl).symm, rfl, rfl⟩

/- slices.SortStableFunc[[]chirograph/node.Leaf,chirograph/node.Leaf] -/
def slices_SortStableFunc_Leaf (k : Nat) (a0 : (List Leaf)) (a1 : (Leaf → Leaf → Option Int)) : Option (List Leaf) :=
 ((slices_stableCmpFunc_Leaf k a0 (lenI a0) a1).bind fun t1 => some t1)

theorem slices_SortStableFunc_Leaf_ok {S : Hp} (k : Nat) (a0 : (List Leaf)) (a1 : (Leaf → Leaf → Option Int)) {va0 : Value} {fv1 : Nat} {cp1 : List Value} (fb1 : FnB Tryz.prog fv1) (hc1 : ∀ S₁, S.le S₁ → ∀ (x0₁ : Leaf) (x1₁ : Leaf) (r₁ : Int), a1 x0₁ x1₁ = some r₁ → Fn Tryz.prog fv1 ([aggV [sL x0₁.label, sL x0₁.value, sV (.int .i64 x0₁.at_)], aggV [sL x1₁.label, sL x1₁.value, sV (.int .i64 x1₁.at_)]] ++ cp1) S₁ (fun v S' => v = .int .i64 r₁)) {r : (List Leaf)} (h : slices_SortStableFunc_Leaf k a0 a1 = some r) : FnP Tryz.prog 119 [va0, fnV fv1 cp1] S (Rw va0 a0) (fun v S' A' => v = .tuple #[] ∧ A' = Rw va0 r) := by
 unfold slices_SortStableFunc_Leaf at h
 refine Fn.ofP [] 9 Tryz.func119 rfl Tryz.ntmps119 (Nat.le_of_ble_eq_true rfl) rfl (fun o F Q hQ hN hret => ?_)
 refine G.region ?_
 refine mv ?_
 refine mv ?_
 refine vl (Y.lenR 0  rfl rfl slc35) ?_
 refine mv ?_
 obtain ⟨t1, wt1, h⟩ := bind_some' h
 refine st (OS.callP 0 _ (by decide) rfl fb180 rfl (slices_stableCmpFunc_Leaf_ok k (fv2 := fv1) (cp2 := cp1) a0 (lenI a0) a1 fb1 (fun S₁ e₁ => hc1 S₁ (l2 l0 e₁)) wt1) (fun v2 S3 _ e4 z5 => ?_))
 obtain ⟨rfl, rfl⟩ := z5
 refine GO.nil ?_
 refine GX.fall hN ?_
 obtain rfl := Option.some.inj h
 exact hret _ _ _ _ _ 0 e4 .nil ⟨rfl, rfl⟩ rfl

/- slices.Clone[[]chirograph/node.Item,chirograph/node.Item] -/
def slices_Clone_Item (a0 : List Item) : Option (List Item) := (req (List.length ([] : List Item) + List.length a0 ≤ LIM)).bind fun _ => some ([] ++ a0)
theorem slices_Clone_Item_ok {S : Hp} (a0 : List Item) {va0 : Value} (qa0 : Sls S va0 a0) {r : List Item} (h : slices_Clone_Item a0 = some r) : FnN Tryz.prog 182 [va0] S (fun v S' A' => A' = Rw v r) := by
  unfold slices_Clone_Item at h
  obtain ⟨g, h⟩ := req_bind h
  obtain rfl := Option.some.inj h
  have hq := qa0
  obtain ⟨a, cap, rfl, hc, hx⟩ := hq
  refine Fn.ofN [.tmp 2] 8 Tryz.func182 rfl Tryz.ntmps182 (Nat.le_of_ble_eq_true rfl) rfl (fun o F Q hQ hN hret => ?_)
  refine G.seq (fun K1 hK1 => ?_)
  refine G.region ?_
  refine GO.val _ (by decide) (Y.assign rfl) ?_
  refine GO.nil ?_
  refine GX.then hK1 ?_
  refine G.seq (fun K2 hK2 => ?_)
  refine G.seq (fun K3 hK3 => ?_)
  refine G.region ?_
  refine GO.val _ (by decide) (Y.move rfl) ?_
  refine GO.val _ (by decide) (Y.eqNil rfl rfl slc32) ?_
  refine GO.nil ?_
  refine GX.then hK3 ?_
  refine G.cond _ rfl (fun c => ?_) (fun c => ?_)
  · have ha : a0 = [] := by
      rcases hx with hx | ⟨b, off, rfl, _⟩
      · exact hx
      · simp at c
    subst ha
    refine G.seq (fun K4 hK4 => ?_)
    refine G.region ?_
    refine GO.nilRow (α := Item) ?_
    refine GO.val _ (by decide) (Y.assign rfl) ?_
    refine GO.nil ?_
    refine GX.then hK4 ?_
    refine G.ret ?_
    exact hret _ _ _ _ _ 0 (Hp.le_refl _) (.cons (.tmp rfl) .nil) rfl rfl
  · refine G.skip ?_
    refine GX.then hK2 ?_
    refine G.seq (fun K5 hK5 => ?_)
    refine G.region ?_
    refine GO.step (OS.buildSliceE ([] : List Item) (by decide) el32 rfl (Nat.le_of_ble_eq_true rfl) rfl ⟨rfl, rfl⟩ (fun v5 => ?_))
    refine GO.val _ (by decide) (Y.move rfl) ?_
    refine GO.step (OS.append (xs := ([] : List Item)) (ys := a0) 0 (by decide) rfl rfl rfl qa0.src el32 src32 g (fun v6 => ?_))
    refine GO.val _ (by decide) (Y.assign rfl) ?_
    refine GO.nil ?_
    refine GX.then hK5 ?_
    refine G.ret ?_
    exact hret _ _ _ _ _ 0 (Hp.le_refl _) (.cons (.tmp rfl) .nil) rfl rfl

/- slices.insertionSortCmpFunc[chirograph/node.Item] -/
def slices_insertionSortCmpFunc_Item_s2 (a1 : Int) (a3 : (Item → Item → Option Int)) : (Int × (List Item)) → Option ((Int × (List Item)) ⊕ (Int × (List Item)))
 | (x16, x17) => ((if (decide (a1 < x16)) = true then ((req ((0 : Int) ≤ x16 ∧ x16 < lenI x17)).bind fun _ => ((req ((0 : Int) ≤ (wrap64 (x16 - (1 : Int))) ∧ (wrap64 (x16 - (1 : Int))) < lenI x17)).bind fun _ => ((a3 (getI x17 x16) (getI x17 (wrap64 (x16 - (1 : Int))))).bind fun t34 => some (decide (t34 < (0 : Int)))))) else some false).bind fun b24 => (if b24 = true then ((req ((0 : Int) ≤ (wrap64 (x16 - (1 : Int))) ∧ (wrap64 (x16 - (1 : Int))) < lenI x17)).bind fun _ => ((req ((0 : Int) ≤ x16 ∧ x16 < lenI x17)).bind fun _ => ((req ((0 : Int) ≤ x16 ∧ x16 < lenI x17)).bind fun _ => ((req ((0 : Int) ≤ (wrap64 (x16 - (1 : Int))) ∧ (wrap64 (x16 - (1 : Int))) < lenI (x17.set (Int.toNat x16) (getI x17 (wrap64 (x16 - (1 : Int))))))).bind fun _ => some (.inl ((wrap64 (x16 - (1 : Int))), ((x17.set (Int.toNat x16) (getI x17 (wrap64 (x16 - (1 : Int))))).set (Int.toNat (wrap64 (x16 - (1 : Int)))) (getI x17 x16)))))))) else some (.inr (x16, x17))))

def slices_insertionSortCmpFunc_Item_s1 (a1 : Int) (a2 : Int) (a3 : (Item → Item → Option Int)) : (Int × (List Item)) → Option ((Int × (List Item)) ⊕ (Int × (List Item)))
 | (x4, x5) => (if (decide (x4 < a2)) = true then ((iter (slices_insertionSortCmpFunc_Item_s2 a1 a3) (x4, x5)).bind fun b19 => (match b19 with | (x16, x17) => some (.inl ((wrap64 (x4 + (1 : Int))), x17)))) else some (.inr (x4, x5)))

def slices_insertionSortCmpFunc_Item  (a0 : (List Item)) (a1 : Int) (a2 : Int) (a3 : (Item → Item → Option Int)) : Option (List Item) :=
 ((iter (slices_insertionSortCmpFunc_Item_s1 a1 a2 a3) ((wrap64 (a1 + (1 : Int))), a0)).bind fun b7 => (match b7 with | (x4, x5) => some x5))

theorem slices_insertionSortCmpFunc_Item_ok {S : Hp} (a0 : (List Item)) (a1 : Int) (a2 : Int) (a3 : (Item → Item → Option Int)) {va0 : Value} {fv3 : Nat} {cp3 : List Value} (fb3 : FnB Tryz.prog fv3) (hc3 : ∀ S₁, S.le S₁ → ∀ (x0₁ : Item) (x1₁ : Item) (r₁ : Int), a3 x0₁ x1₁ = some r₁ → Fn Tryz.prog fv3 ([aggV [sV (.int .i64 x0₁.len), sL x0₁.bits, sL x0₁.sum, sV (.int .i64 x0₁.at_)], aggV [sV (.int .i64 x1₁.len), sL x1₁.bits, sL x1₁.sum, sV (.int .i64 x1₁.at_)]] ++ cp3) S₁ (fun v S' => v = .int .i64 r₁)) {r : (List Item)} (h : slices_insertionSortCmpFunc_Item a0 a1 a2 a3 = some r) : FnP Tryz.prog 207 [va0, .int .i64 a1, .int .i64 a2, fnV fv3 cp3] S (Rw va0 a0) (fun v S' A' => v = .tuple #[] ∧ A' = Rw va0 r) := by
 unfold slices_insertionSortCmpFunc_Item at h
 refine Fn.ofP [] 53 Tryz.func207 rfl Tryz.ntmps207 (Nat.le_of_ble_eq_true rfl) rfl (fun o F Q hQ hN hret => ?_)
 refine sr (fun _ hK1 => ?_)
 refine mv ?_
 refine vl (Y.addI rfl rfl) ?_
 refine an ?_
 refine nt hK1 ?_
 refine G.block ?_
 obtain ⟨b7, wb7, ho8⟩ := bind_some' h
 refine G.keep [8, 0, 1, 2, 3] rfl ?_
 refine G.loopK (slices_insertionSortCmpFunc_Item_s1 a1 a2 a3) (fun s₀ E' S' L' => match s₀ with | (x4, x5) => S.le S' ∧ E' = [(8, .int .i64 x4), (0, va0), (1, .int .i64 a1), (2, .int .i64 a2), (3, fnV fv3 cp3)] ∧ Rw va0 x5 :: F = L') b7 0 (fun E₀ S₀ L₀ => ∃ (x4 : Int) (x5 : (List Item)), S.le S₀ ∧ b7 = (x4, x5) ∧ E₀ = [] ∧ Rw va0 x5 :: F = L₀) wb7 ?_ ?_ ?_
 ·rintro _ S65 _ ⟨x4, x5, e66, rfl, rfl, rfl⟩
  have h := ho8; clear ho8
  try dsimp only at h
  refine GX.exit_block ?_
  refine GX.fall hN ?_
  obtain rfl := Option.some.inj h
  exact hret _ _ _ _ _ 0 e66 .nil ⟨rfl, rfl⟩ rfl
 ·exact ⟨Hp.le_refl _, rfl, rfl⟩
 rintro ⟨x4, x5⟩ _ S2 _ ⟨e3, rfl, rfl⟩ out1 h hf1 K1 hK1 hx6
 rw [slices_insertionSortCmpFunc_Item_s1] at h
 refine G.seq (fun _ hK9 => ?_)
 refine sr (fun _ hK10 => ?_)
 refine mv ?_
 refine mv ?_
 refine vl (Y.ltI rfl rfl) ?_
 refine nt hK10 ?_
 refine G.cond _ rfl (fun c11 => ?_) (fun c11 => ?_)
 ·replace h := ite_t c11 h
  refine sk hK9 ?_
  refine G.seq (fun _ hK12 => ?_)
  refine G.block ?_
  refine sr (fun _ hK13 => ?_)
  refine mv ?_
  refine an ?_
  refine nt hK13 ?_
  refine G.block ?_
  obtain ⟨b19, wb19, ho20⟩ := bind_some' h
  refine G.keep [9, 8, 0, 1, 2, 3] rfl ?_
  refine G.loopK (slices_insertionSortCmpFunc_Item_s2 a1 a3) (fun s₀ E' S' L' => match s₀ with | (x16, x17) => S2.le S' ∧ E' = [(9, .int .i64 x16), (8, .int .i64 x4), (0, va0), (1, .int .i64 a1), (2, .int .i64 a2), (3, fnV fv3 cp3)] ∧ Rw va0 x17 :: F = L') b19 2 (fun E₀ S₀ L₀ => ∃ (x16 : Int) (x17 : (List Item)), S2.le S₀ ∧ b19 = (x16, x17) ∧ E₀ = [(8, .int .i64 x4), (0, va0), (1, .int .i64 a1), (2, .int .i64 a2), (3, fnV fv3 cp3)] ∧ Rw va0 x17 :: F = L₀) wb19 ?_ ?_ ?_
  ·rintro _ S63 _ ⟨x16, x17, e64, rfl, rfl, rfl⟩
   have h := ho20; clear ho20
   try dsimp only at h
   refine GX.exit_block ?_
   refine GX.normal_block ?_
   refine GX.then hK12 ?_
   refine G.region ?_
   refine mv ?_
   refine vl (Y.addI rfl rfl) ?_
   refine an ?_
   refine GO.nil ?_
   obtain rfl := Option.some.inj h
   refine GX.keep [8, 0, 1, 2, 3] rfl ?_
   exact hK1 _ _ _ _ rfl ⟨(l2 e3 e64), rfl, rfl⟩
  ·exact ⟨Hp.le_refl _, rfl, rfl⟩
  rintro ⟨x16, x17⟩ _ S14 _ ⟨e15, rfl, rfl⟩ out2 h hf2 K2 hK2 hx18
  rw [slices_insertionSortCmpFunc_Item_s2] at h
  refine G.seq (fun _ hK21 => ?_)
  refine G.seq (fun _ hK22 => ?_)
  obtain ⟨b24, wb24, h⟩ := bind_some' h
  refine G.cut (fun E₀ S₀ L₀ => S14.le S₀ ∧ E₀ = [(34, .bool b24), (9, .int .i64 x16), (8, .int .i64 x4), (0, va0), (1, .int .i64 a1), (2, .int .i64 a2), (3, fnV fv3 cp3)] ∧ Rw va0 x17 :: F = L₀) (fun K23 hK23 => ?_) ?_
  ·replace h := wb24
   rcases Bool.eq_false_or_eq_true (decide (a1 < x16)) with c25 | c25
   ·replace h := ite_t c25 h
    obtain ⟨g26, h⟩ := req_bind h
    refine G.rowAt 0 rfl g26 (fun ad27 p28 z29 => ?_)
    obtain ⟨g30, h⟩ := req_bind h
    refine G.rowAt 0 rfl g30 (fun ad31 p32 z33 => ?_)
    obtain ⟨t34, wt34, h⟩ := bind_some' h
    obtain rfl := Option.some.inj h
    refine G.drawN 17 mixed (by kernel_rfl) ?_
    refine tn 0 rfl hQ (fun _ _ _ => Y.move rfl) ?_
    refine tn 1 rfl hQ (fun _ _ _ => Y.move rfl) ?_
    refine tn 2 rfl hQ (fun _ _ _ => Y.gtI rfl rfl) ?_
    refine tn 3 rfl hQ (fun _ _ _ => Y.move rfl) ?_
    refine tw 4 rfl .refl hQ (gi 21 c25) (fun _ _ _ => Y.move rfl) ?_
    refine tw 5 rfl .refl hQ (gi 21 c25) (fun _ _ _ => Y.move rfl) ?_
    refine tw 6 rfl .refl hQ (gi 21 c25) (fun _ _ _ => Y.move rfl) ?_
    refine tw 7 rfl .refl hQ (gi 21 c25) (fun _ _ _ => Y.idxR rfl z29 rfl slc32 g26) ?_
    refine tw 8 rfl .refl hQ (gi 21 c25) (fun S₀ X₀ e₀ => Y.loadRow (X₀.length + 0)  x16 0 4 [sV (.int .i64 ((getI x17 x16).len)), sL ((getI x17 x16).bits), sL ((getI x17 x16).sum), sV (.int .i64 ((getI x17 x16).at_))] rfl (Lk rfl) z29 g26 rfl rfl row29 (by kernel_rfl)) ?_
    refine tw 9 rfl .refl hQ (gi 21 c25) (fun _ _ _ => Y.move rfl) ?_
    refine tw 10 rfl .refl hQ (gi 21 c25) (fun _ _ _ => Y.move rfl) ?_
    refine tw 11 rfl .refl hQ (gi 21 c25) (fun _ _ _ => Y.subI rfl rfl) ?_
    refine tw 12 rfl .refl hQ (gi 21 c25) (fun _ _ _ => Y.idxR rfl z33 rfl slc32 g30) ?_
    refine tw 13 rfl .refl hQ (gi 21 c25) (fun S₀ X₀ e₀ => Y.loadRow (X₀.length + 0)  (wrap64 (x16 - (1 : Int))) 0 4 [sV (.int .i64 ((getI x17 (wrap64 (x16 - (1 : Int)))).len)), sL ((getI x17 (wrap64 (x16 - (1 : Int)))).bits), sL ((getI x17 (wrap64 (x16 - (1 : Int)))).sum), sV (.int .i64 ((getI x17 (wrap64 (x16 - (1 : Int)))).at_))] rfl (Lk rfl) z33 g30 rfl rfl row29 (by kernel_rfl)) ?_
    refine g1 14 ?_
    refine GD1.on rfl (gi 21 c25) (by kernel_rfl) (OS.callV _ (by decide) rfl rfl fb3 (hc3 _ (l2 e3 e15) (getI x17 x16) (getI x17 (wrap64 (x16 - (1 : Int)))) _ wt34) (fun v39 S40 e41 z42 => ⟨⟨[], .refl, e41⟩, ?_⟩))
    obtain rfl := z42
    refine tw 15 rfl .refl hQ (gi 21 c25) (fun _ _ _ => Y.ltI rfl rfl) ?_
    refine tn 16 rfl hQ (fun _ _ _ => Y.pickT _ c25 rfl rfl) ?_
    refine dn ?_
    refine GX.keep [34, 9, 8, 0, 1, 2, 3] rfl ?_
    exact hK23 _ _ _ ⟨e41, rfl, rfl⟩
   replace h := ite_f c25 h
   obtain rfl := Option.some.inj h
   refine G.drawN 17 mixed (by kernel_rfl) ?_
   refine tn 0 rfl hQ (fun _ _ _ => Y.move rfl) ?_
   refine tn 1 rfl hQ (fun _ _ _ => Y.move rfl) ?_
   refine tn 2 rfl hQ (fun _ _ _ => Y.gtI rfl rfl) ?_
   refine tn 3 rfl hQ (fun _ _ _ => Y.move rfl) ?_
   refine tf 4 rfl .refl hQ (gn 21 c25) ?_
   refine tf 5 rfl .refl hQ (gn 21 c25) ?_
   refine tf 6 rfl .refl hQ (gn 21 c25) ?_
   refine tf 7 rfl .refl hQ (gn 21 c25) ?_
   refine tf 8 rfl .refl hQ (gn 21 c25) ?_
   refine tf 9 rfl .refl hQ (gn 21 c25) ?_
   refine tf 10 rfl .refl hQ (gn 21 c25) ?_
   refine tf 11 rfl .refl hQ (gn 21 c25) ?_
   refine tf 12 rfl .refl hQ (gn 21 c25) ?_
   refine tf 13 rfl .refl hQ (gn 21 c25) ?_
   refine tf 14 rfl .refl hQ (gn 21 c25) ?_
   refine tf 15 rfl .refl hQ (gn 21 c25) ?_
   refine tn 16 rfl hQ (fun _ _ _ => Y.pickF _ c25 rfl rfl) ?_
   refine dn ?_
   refine GX.keep [34, 9, 8, 0, 1, 2, 3] rfl ?_
   exact hK23 _ _ _ ⟨l0, rfl, rfl⟩
  rintro _ S43 _ ⟨e44, rfl, rfl⟩
  refine GX.then hK22 ?_
  refine G.cond _ rfl (fun c45 => ?_) (fun c45 => ?_)
  ·replace h := ite_t c45 h
   refine sk hK21 ?_
   refine G.seq (fun _ hK46 => ?_)
   refine G.block ?_
   obtain ⟨g47, h⟩ := req_bind h
   refine G.rowAt 0 rfl g47 (fun ad48 p49 z50 => ?_)
   obtain ⟨g51, h⟩ := req_bind h
   refine G.rowAt 0 rfl g51 (fun ad52 p53 z54 => ?_)
   obtain ⟨g55, h⟩ := req_bind h
   refine G.rowAt 0 rfl g55 (fun ad56 p57 z58 => ?_)
   obtain ⟨g59, h⟩ := req_bind h
   refine G.rowAt 0 rfl (by simpa [lenI] using g59) (fun ad60 p61 z62 => ?_)
   refine G.drawS 15 _ ((fun _ => True) :: F) mixed .refl (by kernel_rfl) ?_
   refine tx 0 rfl (.lose .refl) hQ (fun _ _ _ => Y.move rfl) ?_
   refine tx 1 rfl (.lose .refl) hQ (fun _ _ _ => Y.move rfl) ?_
   refine tx 2 rfl (.lose .refl) hQ (fun _ _ _ => Y.move rfl) ?_
   refine tx 3 rfl (.lose .refl) hQ (fun _ _ _ => Y.move rfl) ?_
   refine tx 4 rfl (.lose .refl) hQ (fun _ _ _ => Y.subI rfl rfl) ?_
   refine tx 5 rfl (.lose .refl) hQ (fun _ _ _ => Y.move rfl) ?_
   refine tx 6 rfl (.lose .refl) hQ (fun _ _ _ => Y.move rfl) ?_
   refine tx 7 rfl (.lose .refl) hQ (fun _ _ _ => Y.subI rfl rfl) ?_
   refine tx 8 rfl (.lose .refl) hQ (fun _ _ _ => Y.idxR rfl z50 rfl slc32 g47) ?_
   refine tk 9 [9, 15] rfl hQ Gd.none (fun S₀ X₀ e₀ => Y.loadRow (X₀.length + 0)  (wrap64 (x16 - (1 : Int))) 0 4 [sV (.int .i64 ((getI x17 (wrap64 (x16 - (1 : Int)))).len)), sL ((getI x17 (wrap64 (x16 - (1 : Int)))).bits), sL ((getI x17 (wrap64 (x16 - (1 : Int)))).sum), sV (.int .i64 ((getI x17 (wrap64 (x16 - (1 : Int)))).at_))] rfl (Lk rfl) z50 g47 rfl rfl row29 (by kernel_rfl)) ?_
   refine tx 10 rfl (.lose .refl) hQ (fun _ _ _ => Y.move rfl) ?_
   refine tx 11 rfl (.lose .refl) hQ (fun _ _ _ => Y.move rfl) ?_
   refine tx 12 rfl (.lose .refl) hQ (fun _ _ _ => Y.idxR rfl z54 rfl slc32 g51) ?_
   refine tk 13 [13, 15] rfl hQ Gd.none (fun S₀ X₀ e₀ => Y.loadRow (X₀.length + 0)  x16 0 4 [sV (.int .i64 ((getI x17 x16).len)), sL ((getI x17 x16).bits), sL ((getI x17 x16).sum), sV (.int .i64 ((getI x17 x16).at_))] rfl (Lk rfl) z54 g51 rfl rfl row29 (by kernel_rfl)) ?_
   refine tx 14 rfl (.lose .refl) hQ (fun _ _ _ => Y.idxR rfl z58 rfl slc32 g55) ?_
   refine g1 15 ?_
   refine n2 rfl (OS.storeRow 0 x16 (getI x17 (wrap64 (x16 - (1 : Int)))) rfl rfl (aggV_cells _) rfl z58 g55 rfl size29 ⟨⟨[], (.lose .refl), l0⟩, ?_⟩)
   refine tx 16 rfl (.lose .refl) hQ (fun _ _ _ => Y.idxR rfl z62 rfl slc32 (by simpa [lenI] using g59)) ?_
   refine g1 17 ?_
   refine n2 rfl (OS.storeRow 0 (wrap64 (x16 - (1 : Int))) (getI x17 x16) rfl rfl (aggV_cells _) rfl z62 g59 rfl size29 ⟨⟨[], (.lose .refl), l0⟩, ?_⟩)
   refine dn ?_
   refine GX.normal_block ?_
   refine GX.then hK46 ?_
   refine G.region ?_
   refine mv ?_
   refine vl (Y.subI rfl rfl) ?_
   refine an ?_
   refine GO.nil ?_
   obtain rfl := Option.some.inj h
   refine GX.keep [9, 8, 0, 1, 2, 3] rfl ?_
   exact hK2 _ _ _ _ rfl ⟨(l2 e15 e44), rfl, rfl⟩
  replace h := ite_f c45 h
  refine G.exit ?_
  refine GX.exit_then ?_
  obtain rfl := Option.some.inj h
  refine GX.keep [8, 0, 1, 2, 3] rfl ?_
  exact hx18 _ _ _ ⟨_, _, (l2 e15 e44), (hf2 _ rfl).symm, rfl, rfl⟩
 replace h := ite_f c11 h
 refine G.exit ?_
 refine GX.exit_then ?_
 obtain rfl := Option.some.inj h
 refine GX.keep [] rfl ?_
 exact hx6 _ _ _ ⟨_, _, e3, (hf1 _ rfl).symm, rfl, rfl⟩

/- slices.stableCmpFunc[chirograph/node.Item] -/
def slices_stableCmpFunc_Item_s3 (a1 : Int) : (Int × Int) → Option ((Int × Int) ⊕ (Int × Int))
 | (x43, x44) => (if (decide (x43 ≤ a1)) = true then none else some (.inr (x43, x44)))

def slices_stableCmpFunc_Item_s2 (a1 : Int) : (Int) → Option ((Int) ⊕ (Int))
 | x32 => (if (decide (x32 < a1)) = true then ((iter (slices_stableCmpFunc_Item_s3 a1) ((wrap64 ((2 : Int) * x32)), (0 : Int))).bind fun b46 => (match b46 with | (x43, x44) => (if (decide ((wrap64 (x44 + x32)) < a1)) = true then none else some (.inl (wrap64 (x32 * (2 : Int))))))) else some (.inr x32))

def slices_stableCmpFunc_Item_s1 (a1 : Int) (a2 : (Item → Item → Option Int)) : (Int × Int × (List Item)) → Option ((Int × Int × (List Item)) ⊕ (Int × Int × (List Item)))
 | (x6, x7, x8) => (if (decide (x6 ≤ a1)) = true then ((slices_insertionSortCmpFunc_Item x8 x7 x6 a2).bind fun t16 => some (.inl ((wrap64 (x6 + (20 : Int))), x6, t16))) else some (.inr (x6, x7, x8)))

def slices_stableCmpFunc_Item (k : Nat) (a0 : (List Item)) (a1 : Int) (a2 : (Item → Item → Option Int)) : Option (List Item) :=
 ((iter (slices_stableCmpFunc_Item_s1 a1 a2) ((20 : Int), (0 : Int), a0)).bind fun b10 => (match b10 with | (x6, x7, x8) => ((slices_insertionSortCmpFunc_Item x8 x7 a1 a2).bind fun t25 => ((iter (slices_stableCmpFunc_Item_s2 a1) (20 : Int)).bind fun b34 => (match b34 with | x32 => some t25)))))

theorem slices_stableCmpFunc_Item_ok {S : Hp} (k : Nat) (a0 : (List Item)) (a1 : Int) (a2 : (Item → Item → Option Int)) {va0 : Value} {fv2 : Nat} {cp2 : List Value} (fb2 : FnB Tryz.prog fv2) (hc2 : ∀ S₁, S.le S₁ → ∀ (x0₁ : Item) (x1₁ : Item) (r₁ : Int), a2 x0₁ x1₁ = some r₁ → Fn Tryz.prog fv2 ([aggV [sV (.int .i64 x0₁.len), sL x0₁.bits, sL x0₁.sum, sV (.int .i64 x0₁.at_)], aggV [sV (.int .i64 x1₁.len), sL x1₁.bits, sL x1₁.sum, sV (.int .i64 x1₁.at_)]] ++ cp2) S₁ (fun v S' => v = .int .i64 r₁)) {r : (List Item)} (h : slices_stableCmpFunc_Item k a0 a1 a2 = some r) : FnP Tryz.prog 202 [va0, .int .i64 a1, fnV fv2 cp2] S (Rw va0 a0) (fun v S' A' => v = .tuple #[] ∧ A' = Rw va0 r) := by
 unfold slices_stableCmpFunc_Item at h
 refine Fn.ofP [] 63 Tryz.func202 rfl Tryz.ntmps202 (Nat.le_of_ble_eq_true rfl) rfl (fun o F Q hQ hN hret => ?_)
 refine sr (fun _ hK1 => ?_)
 refine an ?_
 refine nt hK1 ?_
 refine sr (fun _ hK2 => ?_)
 refine mv ?_
 refine an ?_
 refine an ?_
 refine nt hK2 ?_
 refine G.seq (fun _ hK3 => ?_)
 refine G.block ?_
 obtain ⟨b10, wb10, ho11⟩ := bind_some' h
 refine G.keep [8, 7, 6, 0, 1, 2] rfl ?_
 refine G.loopK (slices_stableCmpFunc_Item_s1 a1 a2) (fun s₀ E' S' L' => match s₀ with | (x6, x7, x8) => S.le S' ∧ E' = [(8, .int .i64 x6), (7, .int .i64 x7), (6, .int .i64 (20 : Int)), (0, va0), (1, .int .i64 a1), (2, fnV fv2 cp2)] ∧ Rw va0 x8 :: F = L') b10 0 (fun E₀ S₀ L₀ => ∃ (x6 : Int) (x7 : Int) (x8 : (List Item)), S.le S₀ ∧ b10 = (x6, x7, x8) ∧ E₀ = [(7, .int .i64 x7), (6, .int .i64 (20 : Int)), (0, va0), (1, .int .i64 a1), (2, fnV fv2 cp2)] ∧ Rw va0 x8 :: F = L₀) wb10 ?_ ?_ ?_
 ·rintro _ S22 _ ⟨x6, x7, x8, e23, rfl, rfl, rfl⟩
  have h := ho11; clear ho11
  try dsimp only at h
  refine GX.exit_block ?_
  refine GX.then hK3 ?_
  refine sr (fun _ hK24 => ?_)
  refine mv ?_
  refine mv ?_
  refine mv ?_
  refine mv ?_
  obtain ⟨t25, wt25, h⟩ := bind_some' h
  refine st (OS.callP 0 _ (by decide) rfl fb207 rfl (slices_insertionSortCmpFunc_Item_ok (fv3 := fv2) (cp3 := cp2) x8 x7 a1 a2 fb2 (fun S₁ e₁ => hc2 S₁ (l2 e23 e₁)) wt25) (fun v26 S27 _ e28 z29 => ?_))
  obtain ⟨rfl, rfl⟩ := z29
  refine nt hK24 ?_
  refine G.block ?_
  obtain ⟨b34, wb34, ho35⟩ := bind_some' h
  refine G.keep [6, 0, 1, 2] rfl ?_
  refine G.loopK (slices_stableCmpFunc_Item_s2 a1) (fun s₀ E' S' L' => match s₀ with | x32 => S27.le S' ∧ E' = [(6, .int .i64 x32), (0, va0), (1, .int .i64 a1), (2, fnV fv2 cp2)] ∧ Rw va0 t25 :: F = L') b34 2 (fun E₀ S₀ L₀ => ∃ (x32 : Int), S27.le S₀ ∧ b34 = x32 ∧ E₀ = [] ∧ Rw va0 t25 :: F = L₀) wb34 ?_ ?_ ?_
  ·rintro _ S64 _ ⟨x32, e65, rfl, rfl, rfl⟩
   have h := ho35; clear ho35
   try dsimp only at h
   refine GX.exit_block ?_
   refine GX.fall hN ?_
   obtain rfl := Option.some.inj h
   exact hret _ _ _ _ _ 0 (l2 e23 (l2 e28 e65)) .nil ⟨rfl, rfl⟩ rfl
  ·exact ⟨Hp.le_refl _, rfl, rfl⟩
  rintro x32 _ S30 _ ⟨e31, rfl, rfl⟩ out2 h hf2 K2 hK2 hx33
  rw [slices_stableCmpFunc_Item_s2] at h
  refine G.seq (fun _ hK36 => ?_)
  refine sr (fun _ hK37 => ?_)
  refine mv ?_
  refine mv ?_
  refine vl (Y.ltI rfl rfl) ?_
  refine nt hK37 ?_
  refine G.cond _ rfl (fun c38 => ?_) (fun c38 => ?_)
  ·replace h := ite_t c38 h
   refine sk hK36 ?_
   refine G.block ?_
   refine sr (fun _ hK39 => ?_)
   refine mv ?_
   refine vl (Y.mulI rfl rfl) ?_
   refine an ?_
   refine an ?_
   refine nt hK39 ?_
   refine G.seq (fun _ hK40 => ?_)
   refine G.block ?_
   obtain ⟨b46, wb46, ho47⟩ := bind_some' h
   refine G.keep [8, 7, 6, 0, 1, 2] rfl ?_
   refine G.loopK (slices_stableCmpFunc_Item_s3 a1) (fun s₀ E' S' L' => match s₀ with | (x43, x44) => S30.le S' ∧ E' = [(8, .int .i64 x43), (7, .int .i64 x44), (6, .int .i64 x32), (0, va0), (1, .int .i64 a1), (2, fnV fv2 cp2)] ∧ Rw va0 t25 :: F = L') b46 4 (fun E₀ S₀ L₀ => ∃ (x43 : Int) (x44 : Int), S30.le S₀ ∧ b46 = (x43, x44) ∧ E₀ = [(7, .int .i64 x44), (6, .int .i64 x32), (0, va0), (1, .int .i64 a1), (2, fnV fv2 cp2)] ∧ Rw va0 t25 :: F = L₀) wb46 ?_ ?_ ?_
   ·rintro _ S55 _ ⟨x43, x44, e56, rfl, rfl, rfl⟩
    have h := ho47; clear ho47
    try dsimp only at h
    refine GX.exit_block ?_
    refine GX.then hK40 ?_
    refine G.seq (fun _ hK57 => ?_)
    refine sr (fun _ hK58 => ?_)
    refine mv ?_
    refine mv ?_
    refine vl (Y.addI rfl rfl) ?_
    refine an ?_
    refine nt hK58 ?_
    refine sr (fun _ hK59 => ?_)
    refine mv ?_
    refine mv ?_
    refine vl (Y.ltI rfl rfl) ?_
    refine nt hK59 ?_
    refine G.cond _ rfl (fun c60 => ?_) (fun c60 => ?_)
    ·replace h := ite_t c60 h
     refine G.region ?_
     refine mv ?_
     refine mv ?_
     refine mv ?_
     refine mv ?_
     refine mv ?_
     exact absurd h (by simp)
    replace h := ite_f c60 h
    refine sk hK57 ?_
    refine G.region ?_
    refine mv ?_
    refine vl (Y.mulI rfl rfl) ?_
    refine an ?_
    refine GO.nil ?_
    refine GX.normal_block ?_
    obtain rfl := Option.some.inj h
    refine GX.keep [6, 0, 1, 2] rfl ?_
    exact hK2 _ _ _ _ rfl ⟨(l2 e31 e56), rfl, rfl⟩
   ·exact ⟨Hp.le_refl _, rfl, rfl⟩
   rintro ⟨x43, x44⟩ _ S41 _ ⟨e42, rfl, rfl⟩ out3 h hf3 K3 hK3 hx45
   rw [slices_stableCmpFunc_Item_s3] at h
   refine G.seq (fun _ hK48 => ?_)
   refine sr (fun _ hK49 => ?_)
   refine mv ?_
   refine mv ?_
   refine vl (Y.leI rfl rfl) ?_
   refine nt hK49 ?_
   refine G.cond _ rfl (fun c50 => ?_) (fun c50 => ?_)
   ·replace h := ite_t c50 h
    refine sk hK48 ?_
    refine G.block ?_
    refine sr (fun _ hK51 => ?_)
    refine mv ?_
    refine mv ?_
    refine mv ?_
    refine mv ?_
    refine vl (Y.addI rfl rfl) ?_
    refine mv ?_
    refine mv ?_
    exact absurd h (by simp)
   replace h := ite_f c50 h
   refine G.exit ?_
   refine GX.exit_then ?_
   obtain rfl := Option.some.inj h
   refine GX.keep [7, 6, 0, 1, 2] rfl ?_
   exact hx45 _ _ _ ⟨_, _, e42, (hf3 _ rfl).symm, rfl, rfl⟩
  replace h := ite_f c38 h
  refine G.exit ?_
  refine GX.exit_then ?_
  obtain rfl := Option.some.inj h
  refine GX.keep [] rfl ?_
  exact hx33 _ _ _ ⟨_, e31, (hf2 _ rfl).symm, rfl, rfl⟩
 ·exact ⟨Hp.le_refl _, rfl, rfl⟩
 rintro ⟨x6, x7, x8⟩ _ S4 _ ⟨e5, rfl, rfl⟩ out1 h hf1 K1 hK1 hx9
 rw [slices_stableCmpFunc_Item_s1] at h
 refine G.seq (fun _ hK12 => ?_)
 refine sr (fun _ hK13 => ?_)
 refine mv ?_
 refine mv ?_
 refine vl (Y.leI rfl rfl) ?_
 refine nt hK13 ?_
 refine G.cond _ rfl (fun c14 => ?_) (fun c14 => ?_)
 ·replace h := ite_t c14 h
  refine sk hK12 ?_
  refine G.block ?_
  refine sr (fun _ hK15 => ?_)
  refine mv ?_
  refine mv ?_
  refine mv ?_
  refine mv ?_
  obtain ⟨t16, wt16, h⟩ := bind_some' h
  refine st (OS.callP 0 _ (by decide) rfl fb207 rfl (slices_insertionSortCmpFunc_Item_ok (fv3 := fv2) (cp3 := cp2) x8 x7 x6 a2 fb2 (fun S₁ e₁ => hc2 S₁ (l2 e5 e₁)) wt16) (fun v17 S18 _ e19 z20 => ?_))
  obtain ⟨rfl, rfl⟩ := z20
  refine nt hK15 ?_
  refine sr (fun _ hK21 => ?_)
  refine mv ?_
  refine an ?_
  refine nt hK21 ?_
  refine G.region ?_
  refine mv ?_
  refine mv ?_
  refine vl (Y.addI rfl rfl) ?_
  refine an ?_
  refine GO.nil ?_
  refine GX.normal_block ?_
  obtain rfl := Option.some.inj h
  refine GX.keep [8, 7, 6, 0, 1, 2] rfl ?_
  exact hK1 _ _ _ _ rfl ⟨(l2 e5 e19), rfl, rfl⟩
 replace h := ite_f c14 h
 refine G.exit ?_
 refine GX.exit_then ?_
 obtain rfl := Option.some.inj h
 refine GX.keep [7, 6, 0, 1, 2] rfl ?_
 exact hx9 _ _ _ ⟨_, _, _, e5, (hf1 _ rfl).symm, rfl, rfl⟩

/- slices.SortStableFunc[[]chirograph/node.Item,chirograph/node.Item] -/
def slices_SortStableFunc_Item (k : Nat) (a0 : (List Item)) (a1 : (Item → Item → Option Int)) : Option (List Item) :=
 ((slices_stableCmpFunc_Item k a0 (lenI a0) a1).bind fun t1 => some t1)

theorem slices_SortStableFunc_Item_ok {S : Hp} (k : Nat) (a0 : (List Item)) (a1 : (Item → Item → Option Int)) {va0 : Value} {fv1 : Nat} {cp1 : List Value} (fb1 : FnB Tryz.prog fv1) (hc1 : ∀ S₁, S.le S₁ → ∀ (x0₁ : Item) (x1₁ : Item) (r₁ : Int), a1 x0₁ x1₁ = some r₁ → Fn Tryz.prog fv1 ([aggV [sV (.int .i64 x0₁.len), sL x0₁.bits, sL x0₁.sum, sV (.int .i64 x0₁.at_)], aggV [sV (.int .i64 x1₁.len), sL x1₁.bits, sL x1₁.sum, sV (.int .i64 x1₁.at_)]] ++ cp1) S₁ (fun v S' => v = .int .i64 r₁)) {r : (List Item)} (h : slices_SortStableFunc_Item k a0 a1 = some r) : FnP Tryz.prog 183 [va0, fnV fv1 cp1] S (Rw va0 a0) (fun v S' A' => v = .tuple #[] ∧ A' = Rw va0 r) := by
 unfold slices_SortStableFunc_Item at h
 refine Fn.ofP [] 9 Tryz.func183 rfl Tryz.ntmps183 (Nat.le_of_ble_eq_true rfl) rfl (fun o F Q hQ hN hret => ?_)
 refine G.region ?_
 refine mv ?_
 refine mv ?_
 refine vl (Y.lenR 0  rfl rfl slc32) ?_
 refine mv ?_
 obtain ⟨t1, wt1, h⟩ := bind_some' h
 refine st (OS.callP 0 _ (by decide) rfl fb202 rfl (slices_stableCmpFunc_Item_ok k (fv2 := fv1) (cp2 := cp1) a0 (lenI a0) a1 fb1 (fun S₁ e₁ => hc1 S₁ (l2 l0 e₁)) wt1) (fun v2 S3 _ e4 z5 => ?_))
 obtain ⟨rfl, rfl⟩ := z5
 refine GO.nil ?_
 refine GX.fall hN ?_
 obtain rfl := Option.some.inj h
 exact hret _ _ _ _ _ 0 e4 .nil ⟨rfl, rfl⟩ rfl

/- slices.IndexFunc[[]chirograph/node.Leaf,chirograph/node.Leaf] -/
def slices_IndexFunc_Leaf_s1 (a0 : (List Leaf)) (a1 : (Leaf → Option Bool)) : (Int) → Option ((Int) ⊕ (Int ⊕ (Int)))
 | x6 => (if (decide (x6 < (lenI a0))) = true then ((req ((0 : Int) ≤ x6 ∧ x6 < lenI a0)).bind fun _ => ((a1 (getI a0 x6)).bind fun t21 => (if t21 = true then some (.inr (.inl x6)) else some (.inl (wrap64 (x6 + (1 : Int))))))) else some (.inr (.inr x6)))

def slices_IndexFunc_Leaf  (a0 : (List Leaf)) (a1 : (Leaf → Option Bool)) : Option Int :=
 ((iter (slices_IndexFunc_Leaf_s1 a0 a1) (0 : Int)).bind fun b8 => (match b8 with | .inl r₀ => some r₀ | .inr x6 => some (-1 : Int)))

theorem slices_IndexFunc_Leaf_ok {S : Hp} (a0 : (List Leaf)) (a1 : (Leaf → Option Bool)) {va0 : Value} (qa0 : Sls S va0 a0) {fv1 : Nat} {cp1 : List Value} (fb1 : FnB Tryz.prog fv1) (hc1 : ∀ S₁, S.le S₁ → ∀ (x0₁ : Leaf) (r₁ : Bool), a1 x0₁ = some r₁ → Fn Tryz.prog fv1 ([aggV [sL x0₁.label, sL x0₁.value, sV (.int .i64 x0₁.at_)]] ++ cp1) S₁ (fun v S' => v = .bool r₁)) {r : Int} (h : slices_IndexFunc_Leaf a0 a1 = some r) : Fn Tryz.prog 127 [va0, fnV fv1 cp1] S (fun v S' => v = .int .i64 r) := by
 unfold slices_IndexFunc_Leaf at h
 refine fo [.tmp 4] 19 Tryz.func127 Tryz.ntmps127 (fun o F Q hQ hN hret => ?_)
 refine sr (fun _ hK1 => ?_)
 refine an ?_
 refine nt hK1 ?_
 refine G.seq (fun _ hK2 => ?_)
 refine sr (fun _ hK3 => ?_)
 refine mv ?_
 refine vl (Y.lenS rfl qa0 slc35) ?_
 refine mv ?_
 refine nt hK3 ?_
 refine G.block ?_
 obtain ⟨b8, wb8, ho9⟩ := bind_some' h
 refine G.keep [8, 7, 0, 1] rfl ?_
 refine G.loopK (slices_IndexFunc_Leaf_s1 a0 a1) (fun s₀ E' S' L' => match s₀ with | x6 => S.le S' ∧ E' = [(8, .int .i64 x6), (7, .int .i64 (lenI a0)), (0, va0), (1, fnV fv1 cp1)] ∧ F = L') b8 0 (fun E₀ S₀ L₀ => ∃ (x6 : Int), S.le S₀ ∧ b8 = .inr x6 ∧ E₀ = [] ∧ F = L₀) wb8 ?_ ?_ ?_
 ·rintro _ S28 _ ⟨x6, e29, rfl, rfl, rfl⟩
  have h := ho9; clear ho9
  try dsimp only at h
  refine GX.exit_block ?_
  refine GX.then hK2 ?_
  refine sr (fun _ hK30 => ?_)
  refine an ?_
  refine nt hK30 ?_
  refine G.ret ?_
  obtain rfl := Option.some.inj h
  exact hret _ _ _ _ 0 e29 (.cons (.tmp rfl) .nil) rfl rfl
 ·exact ⟨Hp.le_refl _, rfl, rfl⟩
 rintro x6 _ S4 _ ⟨e5, rfl, rfl⟩ out1 h hf1 K1 hK1 hx7
 rw [slices_IndexFunc_Leaf_s1] at h
 replace qa0 := qa0.up e5
 refine sr (fun _ hK10 => ?_)
 refine vl (Y.ltI rfl rfl) ?_
 refine nt hK10 ?_
 refine G.seq (fun _ hK11 => ?_)
 refine G.cond _ rfl (fun c12 => ?_) (fun c12 => ?_)
 ·replace h := ite_t c12 h
  refine sk hK11 ?_
  refine G.seq (fun _ hK13 => ?_)
  refine G.block ?_
  refine sr (fun _ hK14 => ?_)
  refine mv ?_
  refine an ?_
  refine nt hK14 ?_
  refine sr (fun _ hK15 => ?_)
  refine mv ?_
  refine mv ?_
  refine mv ?_
  obtain ⟨g16, h⟩ := req_bind h
  obtain ⟨ad17, p18, z19, q20⟩ := Sls.at qa0 g16
  refine vl (Y.idxS rfl z19 rfl slc35 g16) ?_
  refine vl (Y.loadS [sL ((getI a0 x6).label), sL ((getI a0 x6).value), sV (.int .i64 ((getI a0 x6).at_))] rfl (At.part q20 0 3 _ rfl rfl) row25 (by kernel_rfl)) ?_
  obtain ⟨t21, wt21, h⟩ := bind_some' h
  refine st (OS.callV _ (by decide) rfl rfl fb1 (hc1 _ e5 (getI a0 x6) _ wt21) (fun v22 S23 e24 z25 => ?_))
  replace qa0 := qa0.up e24
  replace q20 := q20.up e24
  obtain rfl := z25
  refine nt hK15 ?_
  refine G.cond _ rfl (fun c26 => ?_) (fun c26 => ?_)
  ·replace h := ite_t c26 h
   refine sr (fun _ hK27 => ?_)
   refine mv ?_
   refine an ?_
   refine nt hK27 ?_
   refine G.ret ?_
   obtain rfl := Option.some.inj h
   obtain rfl := hf1 _ rfl
   have h := ho9
   try dsimp only at h
   obtain rfl := Option.some.inj h
   exact hret _ _ _ _ 0 (l2 e5 e24) (.cons (.tmp rfl) .nil) rfl rfl
  replace h := ite_f c26 h
  refine G.skip ?_
  refine GX.normal_block ?_
  refine GX.then hK13 ?_
  refine G.region ?_
  refine vl (Y.addI rfl rfl) ?_
  refine mv ?_
  refine GO.nil ?_
  obtain rfl := Option.some.inj h
  refine GX.keep [8, 7, 0, 1] rfl ?_
  exact hK1 _ _ _ _ rfl ⟨(l2 e5 e24), rfl, rfl⟩
 replace h := ite_f c12 h
 refine G.exit ?_
 refine GX.exit_then ?_
 obtain rfl := Option.some.inj h
 refine GX.keep [] rfl ?_
 exact hx7 _ _ _ ⟨_, e5, (hf1 _ rfl).symm, rfl, rfl⟩

/- slices.IndexFunc[[]chirograph/node.Item,chirograph/node.Item] -/
def slices_IndexFunc_Item_s1 (a0 : (List Item)) (a1 : (Item → Option Bool)) : (Int) → Option ((Int) ⊕ (Int ⊕ (Int)))
 | x6 => (if (decide (x6 < (lenI a0))) = true then ((req ((0 : Int) ≤ x6 ∧ x6 < lenI a0)).bind fun _ => ((a1 (getI a0 x6)).bind fun t21 => (if t21 = true then some (.inr (.inl x6)) else some (.inl (wrap64 (x6 + (1 : Int))))))) else some (.inr (.inr x6)))

def slices_IndexFunc_Item  (a0 : (List Item)) (a1 : (Item → Option Bool)) : Option Int :=
 ((iter (slices_IndexFunc_Item_s1 a0 a1) (0 : Int)).bind fun b8 => (match b8 with | .inl r₀ => some r₀ | .inr x6 => some (-1 : Int)))

theorem slices_IndexFunc_Item_ok {S : Hp} (a0 : (List Item)) (a1 : (Item → Option Bool)) {va0 : Value} (qa0 : Sls S va0 a0) {fv1 : Nat} {cp1 : List Value} (fb1 : FnB Tryz.prog fv1) (hc1 : ∀ S₁, S.le S₁ → ∀ (x0₁ : Item) (r₁ : Bool), a1 x0₁ = some r₁ → Fn Tryz.prog fv1 ([aggV [sV (.int .i64 x0₁.len), sL x0₁.bits, sL x0₁.sum, sV (.int .i64 x0₁.at_)]] ++ cp1) S₁ (fun v S' => v = .bool r₁)) {r : Int} (h : slices_IndexFunc_Item a0 a1 = some r) : Fn Tryz.prog 188 [va0, fnV fv1 cp1] S (fun v S' => v = .int .i64 r) := by
 unfold slices_IndexFunc_Item at h
 refine fo [.tmp 4] 19 Tryz.func188 Tryz.ntmps188 (fun o F Q hQ hN hret => ?_)
 refine sr (fun _ hK1 => ?_)
 refine an ?_
 refine nt hK1 ?_
 refine G.seq (fun _ hK2 => ?_)
 refine sr (fun _ hK3 => ?_)
 refine mv ?_
 refine vl (Y.lenS rfl qa0 slc32) ?_
 refine mv ?_
 refine nt hK3 ?_
 refine G.block ?_
 obtain ⟨b8, wb8, ho9⟩ := bind_some' h
 refine G.keep [8, 7, 0, 1] rfl ?_
 refine G.loopK (slices_IndexFunc_Item_s1 a0 a1) (fun s₀ E' S' L' => match s₀ with | x6 => S.le S' ∧ E' = [(8, .int .i64 x6), (7, .int .i64 (lenI a0)), (0, va0), (1, fnV fv1 cp1)] ∧ F = L') b8 0 (fun E₀ S₀ L₀ => ∃ (x6 : Int), S.le S₀ ∧ b8 = .inr x6 ∧ E₀ = [] ∧ F = L₀) wb8 ?_ ?_ ?_
 ·rintro _ S28 _ ⟨x6, e29, rfl, rfl, rfl⟩
  have h := ho9; clear ho9
  try dsimp only at h
  refine GX.exit_block ?_
  refine GX.then hK2 ?_
  refine sr (fun _ hK30 => ?_)
  refine an ?_
  refine nt hK30 ?_
  refine G.ret ?_
  obtain rfl := Option.some.inj h
  exact hret _ _ _ _ 0 e29 (.cons (.tmp rfl) .nil) rfl rfl
 ·exact ⟨Hp.le_refl _, rfl, rfl⟩
 rintro x6 _ S4 _ ⟨e5, rfl, rfl⟩ out1 h hf1 K1 hK1 hx7
 rw [slices_IndexFunc_Item_s1] at h
 replace qa0 := qa0.up e5
 refine sr (fun _ hK10 => ?_)
 refine vl (Y.ltI rfl rfl) ?_
 refine nt hK10 ?_
 refine G.seq (fun _ hK11 => ?_)
 refine G.cond _ rfl (fun c12 => ?_) (fun c12 => ?_)
 ·replace h := ite_t c12 h
  refine sk hK11 ?_
  refine G.seq (fun _ hK13 => ?_)
  refine G.block ?_
  refine sr (fun _ hK14 => ?_)
  refine mv ?_
  refine an ?_
  refine nt hK14 ?_
  refine sr (fun _ hK15 => ?_)
  refine mv ?_
  refine mv ?_
  refine mv ?_
  obtain ⟨g16, h⟩ := req_bind h
  obtain ⟨ad17, p18, z19, q20⟩ := Sls.at qa0 g16
  refine vl (Y.idxS rfl z19 rfl slc32 g16) ?_
  refine vl (Y.loadS [sV (.int .i64 ((getI a0 x6).len)), sL ((getI a0 x6).bits), sL ((getI a0 x6).sum), sV (.int .i64 ((getI a0 x6).at_))] rfl (At.part q20 0 4 _ rfl rfl) row29 (by kernel_rfl)) ?_
  obtain ⟨t21, wt21, h⟩ := bind_some' h
  refine st (OS.callV _ (by decide) rfl rfl fb1 (hc1 _ e5 (getI a0 x6) _ wt21) (fun v22 S23 e24 z25 => ?_))
  replace qa0 := qa0.up e24
  replace q20 := q20.up e24
  obtain rfl := z25
  refine nt hK15 ?_
  refine G.cond _ rfl (fun c26 => ?_) (fun c26 => ?_)
  ·replace h := ite_t c26 h
   refine sr (fun _ hK27 => ?_)
   refine mv ?_
   refine an ?_
   refine nt hK27 ?_
   refine G.ret ?_
   obtain rfl := Option.some.inj h
   obtain rfl := hf1 _ rfl
   have h := ho9
   try dsimp only at h
   obtain rfl := Option.some.inj h
   exact hret _ _ _ _ 0 (l2 e5 e24) (.cons (.tmp rfl) .nil) rfl rfl
  replace h := ite_f c26 h
  refine G.skip ?_
  refine GX.normal_block ?_
  refine GX.then hK13 ?_
  refine G.region ?_
  refine vl (Y.addI rfl rfl) ?_
  refine mv ?_
  refine GO.nil ?_
  obtain rfl := Option.some.inj h
  refine GX.keep [8, 7, 0, 1] rfl ?_
  exact hK1 _ _ _ _ rfl ⟨(l2 e5 e24), rfl, rfl⟩
 replace h := ite_f c12 h
 refine G.exit ?_
 refine GX.exit_then ?_
 obtain rfl := Option.some.inj h
 refine GX.keep [] rfl ?_
 exact hx7 _ _ _ ⟨_, e5, (hf1 _ rfl).symm, rfl, rfl⟩

end
end Go.Ch
end
section
/- Functions of the program: what each comes to, proved. -/
set_option linter.unusedVariables false
set_option linter.unusedSimpArgs false
set_option maxRecDepth 100000
set_option maxHeartbeats 4000000
namespace Go.Ch
open Go.RowKit (wrap64)
open Go.Proofs
noncomputable section
/- chirograph/proof.Check -/
def proof_Check  (a0 : Lab) (a1 : Lab) (a2 : Proof) : Option (Leaf × Bool × Int) :=
 ((proof_Proof_Nodes a2 a1).bind fun t13 => (if (t13.2 != (0 : Int)) = true then some ((⟨zL, zL, 0⟩ : Leaf), false, t13.2) else ((node_Empty).bind fun t25 => (if (decide ((0 : Int) < (lenI t13.1))) = true then ((req ((0 : Int) ≤ (wrap64 ((lenI t13.1) - (1 : Int))) ∧ (wrap64 ((lenI t13.1) - (1 : Int))) < lenI t13.1)).bind fun _ => (match (getI t13.1 (wrap64 ((lenI t13.1) - (1 : Int)))) with | .leaf x40 => ((node_Leaf_Item x40).bind fun t42 => (if (!(t42.sum == a0)) = true then some ((⟨zL, zL, 0⟩ : Leaf), false, (11 : Int)) else ((if (a2.end_ == (1 : Int)) = true then some (a2.leaf.label == a1) else some false).bind fun b53 => (if b53 = true then some (a2.leaf, true, (0 : Int)) else some ((⟨zL, zL, 0⟩ : Leaf), false, (0 : Int)))))) | .inner x41 => ((node_Inner_Item x41).bind fun t61 => (if (!(t61.sum == a0)) = true then some ((⟨zL, zL, 0⟩ : Leaf), false, (11 : Int)) else ((if (a2.end_ == (1 : Int)) = true then some (a2.leaf.label == a1) else some false).bind fun b72 => (if b72 = true then some (a2.leaf, true, (0 : Int)) else some ((⟨zL, zL, 0⟩ : Leaf), false, (0 : Int)))))) | .nil => none)) else (if (!(t25 == a0)) = true then some ((⟨zL, zL, 0⟩ : Leaf), false, (11 : Int)) else ((if (a2.end_ == (1 : Int)) = true then some (a2.leaf.label == a1) else some false).bind fun b86 => (if b86 = true then some (a2.leaf, true, (0 : Int)) else some ((⟨zL, zL, 0⟩ : Leaf), false, (0 : Int)))))))))

theorem proof_Check_ok {S : Hp} (a0 : Lab) (a1 : Lab) (a2 : Proof) {v1 : Value} (q2 : Sls S v1 a2.path) {r : Leaf × Bool × Int} (h : proof_Check a0 a1 a2 = some r) : Fn Tryz.prog 8 [aggV [sL a0], aggV [sL a1], aggV [sV (.int .i64 a2.end_), sL a2.leaf.label, sL a2.leaf.value, sV (.int .i64 a2.leaf.at_), sV (.int .i64 a2.a.len), sL a2.a.bits, sL a2.a.sum, sV (.int .i64 a2.a.at_), sV (.int .i64 a2.b.len), sL a2.b.bits, sL a2.b.sum, sV (.int .i64 a2.b.at_), sV v1]] S (fun v S' => v = .tuple #[aggV [sL r.1.label, sL r.1.value, sV (.int .i64 r.1.at_)], .bool r.2.1, .int .i64 r.2.2]) := by
 unfold proof_Check at h
 refine fo [.cell 6 25, .tmp 7, .tmp 8] 51 Tryz.func8 Tryz.ntmps8 (fun o F Q hQ hN hret => ?_)
 refine sr (fun _ hK3 => ?_)
 refine st (OS.boxA (by decide) rfl (fun ad4 => ?_))
 refine st (OS.boxA (by decide) rfl (fun ad6 => ?_))
 refine st (OS.boxA (by decide) rfl (fun ad8 => ?_))
 refine st (OS.alloc _ (by decide) zero25 (fun ad10 => ?_))
 refine an ?_
 refine an ?_
 refine nt hK3 ?_
 refine sr (fun _ hK12 => ?_)
 refine lb 1 0 13 [sV (.int .i64 a2.end_), sL a2.leaf.label, sL a2.leaf.value, sV (.int .i64 a2.leaf.at_), sV (.int .i64 a2.a.len), sL a2.a.bits, sL a2.a.sum, sV (.int .i64 a2.a.at_), sV (.int .i64 a2.b.len), sL a2.b.bits, sL a2.b.sum, sV (.int .i64 a2.b.at_), sV v1] row34 ?_
 refine lb 2 0 1 [sL a1] row23 ?_
 obtain ⟨t13, wt13, h⟩ := bind_some' h
 refine st (cl fb14 (proof_Proof_Nodes_ok a2 a1 q2 wt13) (fun v14 S15 e16 z17 => ?_))
 replace q2 := q2.up e16
 obtain ⟨v18, rfl, q19⟩ := z17
 refine mv ?_
 refine vl (Y.extract _ rfl rfl) ?_
 refine vl (Y.extract _ rfl rfl) ?_
 refine an ?_
 refine an ?_
 refine nt hK12 ?_
 refine G.seq (fun _ hK20 => ?_)
 refine sr (fun _ hK21 => ?_)
 refine mv ?_
 refine vl (Y.neI rfl rfl) ?_
 refine nt hK21 ?_
 refine G.cond _ rfl (fun c22 => ?_) (fun c22 => ?_)
 ·replace h := ite_t c22 h
  refine sr (fun _ hK23 => ?_)
  refine vl (Y.buildE _ [sL zL, sL zL, sV (.int .i64 0)] strt25 zero25 rfl .nil) ?_
  refine mv ?_
  refine sf 0 3 [sL zL, sL zL, sV (.int .i64 0)] (aggV_cells _) (oL (oL (oI oN))) size25 ?_
  refine an ?_
  refine an ?_
  refine nt hK23 ?_
  refine G.ret ?_
  obtain rfl := Option.some.inj h
  exact hret _ _ _ _ 4 e16 (.cons (.row (k := 0) rfl rfl row25 (by kernel_rfl)) (.cons (.tmp rfl) (.cons (.tmp rfl) .nil))) rfl rfl
 replace h := ite_f c22 h
 refine sk hK20 ?_
 refine sr (fun _ hK24 => ?_)
 obtain ⟨t25, wt25, h⟩ := bind_some' h
 refine st (cl fb38 (node_Empty_ok  wt25) (fun v26 S27 e28 z29 => ?_))
 replace q2 := q2.up e28
 replace q19 := q19.up e28
 obtain rfl := z29
 refine st (OS.alloc _ (by decide) zero23 (fun ad30 => ?_))
 refine sf 0 1 [sL t25] (aggV_cells _) (oL oN) size23 ?_
 refine nt hK24 ?_
 refine G.seq (fun _ hK32 => ?_)
 refine sr (fun _ hK33 => ?_)
 refine mv ?_
 refine vl (Y.lenS rfl q19 slc55) ?_
 refine vl (Y.gtI rfl rfl) ?_
 refine nt hK33 ?_
 refine G.cond _ rfl (fun c34 => ?_) (fun c34 => ?_)
 ·replace h := ite_t c34 h
  refine G.region ?_
  refine mv ?_
  refine mv ?_
  refine vl (Y.lenS rfl q19 slc55) ?_
  refine vl (Y.subI rfl rfl) ?_
  obtain ⟨g35, h⟩ := req_bind h
  obtain ⟨ad36, p37, z38, q39⟩ := Sls.at q19 g35
  refine vl (Y.idxS rfl z38 rfl slc55 g35) ?_
  refine vl (Y.loadSV _ rfl (At.val (At.part q39 0 1 [sV (ndV (getI t13.1 (wrap64 ((lenI t13.1) - (1 : Int)))))] rfl rfl)) one63) ?_
  generalize (getI t13.1 (wrap64 ((lenI t13.1) - (1 : Int)))) = n₀ at h ⊢
  rcases n₀ with x40 | x41 | _
  ·try dsimp only at h
   obtain ⟨t42, wt42, h⟩ := bind_some' h
   refine st (OS.invoke (by decide) rfl meth25_Item fb53 (node_Leaf_Item_ok x40 wt42) (fun v43 S44 e45 z46 => ?_))
   replace q2 := q2.up e45
   replace q19 := q19.up e45
   replace q39 := q39.up e45
   obtain rfl := z46
   refine vl (Y.field 2 1 [sL t42.sum] rfl ⟨_, _, Tryz.underlying29, rfl, rfl, rfl⟩ rfl rfl row23 (by kernel_rfl)) ?_
   refine sf 0 1 [sL t42.sum] (aggV_cells _) (oL oN) size23 ?_
   refine nt hK32 ?_
   refine G.seq (fun _ hK47 => ?_)
   refine sr (fun _ hK48 => ?_)
   refine lb 0 0 1 [sL t42.sum] row23 ?_
   refine lb 4 0 1 [sL a0] row23 ?_
   refine vl (Y.neA rfl rfl eqt23 (by decide) (EqV.lab _ _ Tryz.underlying23 one5 Tryz.underlying5)) ?_
   refine nt hK48 ?_
   refine G.cond _ rfl (fun c49 => ?_) (fun c49 => ?_)
   ·replace h := ite_t c49 h
    refine sr (fun _ hK50 => ?_)
    refine vl (Y.buildE _ [sL zL, sL zL, sV (.int .i64 0)] strt25 zero25 rfl .nil) ?_
    refine sf 1 3 [sL zL, sL zL, sV (.int .i64 0)] (aggV_cells _) (oL (oL (oI oN))) size25 ?_
    refine an ?_
    refine an ?_
    refine nt hK50 ?_
    refine G.ret ?_
    obtain rfl := Option.some.inj h
    exact hret _ _ _ _ 5 (l2 e16 (l2 e28 e45)) (.cons (.row (k := 1) rfl rfl row25 (by kernel_rfl)) (.cons (.tmp rfl) (.cons (.tmp rfl) .nil))) rfl rfl
   replace h := ite_f c49 h
   refine sk hK47 ?_
   refine G.seq (fun _ hK51 => ?_)
   refine sr (fun _ hK52 => ?_)
   refine vl (Y.fieldAddr 0 rfl fld34_0 rfl) ?_
   refine lv 2 0 one3 ?_
   refine vl (Y.eqI rfl rfl) ?_
   refine mv ?_
   obtain ⟨b53, wb53, h⟩ := bind_some' h
   refine GO.joinB 6 47 (b53 = ·) (fun K55 hK55 => ?_) ?_
   ·replace h := wb53
    rcases Bool.eq_false_or_eq_true (a2.end_ == (1 : Int)) with c54 | c54
    ·replace h := ite_t c54 h
     refine gv 41 c54 (Y.fieldAddr 1 rfl fld34_1 rfl) ?_
     refine gv 41 c54 (Y.fieldAddr 1 rfl fld25_0 rfl) ?_
     refine gv 41 c54 (Y.loadB 2  1 1 [sL a2.leaf.label] rfl rfl rfl rfl row23 (by kernel_rfl)) ?_
     refine gv 41 c54 (Y.loadB 3  0 1 [sL a1] rfl rfl rfl rfl row23 (by kernel_rfl)) ?_
     refine gv 41 c54 (Y.eqA rfl rfl eqt23 (by decide) (EqV.lab _ _ Tryz.underlying23 one5 Tryz.underlying5)) ?_
     refine vl (Y.pickT _ c54 rfl rfl) ?_
     refine GO.nil ?_
     refine p2 (p2 (p2 (p2 (p2 ?_))))
     exact hK55 _ _ l0 (Option.some.inj h).symm
    replace h := ite_f c54 h
    refine gf 41 c54 ?_
    refine gf 41 c54 ?_
    refine gf 41 c54 ?_
    refine gf 41 c54 ?_
    refine gf 41 c54 ?_
    refine vl (Y.pickF _ c54 rfl rfl) ?_
    refine GO.nil ?_
    refine p2 (p2 (p2 (p2 (p2 ?_))))
    exact hK55 _ _ l0 (Option.some.inj h).symm
   rintro _ S56 e57 rfl
   replace q2 := q2.up e57
   replace q19 := q19.up e57
   replace q39 := q39.up e57
   refine nt hK52 ?_
   refine G.cond _ rfl (fun c58 => ?_) (fun c58 => ?_)
   ·replace h := ite_t c58 h
    refine sr (fun _ hK59 => ?_)
    refine vl (Y.fieldAddr 1 rfl fld34_1 rfl) ?_
    refine lb 2 1 3 [sL a2.leaf.label, sL a2.leaf.value, sV (.int .i64 a2.leaf.at_)] row25 ?_
    refine sf 1 3 [sL a2.leaf.label, sL a2.leaf.value, sV (.int .i64 a2.leaf.at_)] (aggV_cells _) (oL (oL (oI oN))) size25 ?_
    refine an ?_
    refine an ?_
    refine nt hK59 ?_
    refine G.ret ?_
    obtain rfl := Option.some.inj h
    exact hret _ _ _ _ 5 (l2 e16 (l2 e28 (l2 e45 e57))) (.cons (.row (k := 1) rfl rfl row25 (by kernel_rfl)) (.cons (.tmp rfl) (.cons (.tmp rfl) .nil))) rfl rfl
   replace h := ite_f c58 h
   refine sk hK51 ?_
   refine sr (fun _ hK60 => ?_)
   refine vl (Y.buildE _ [sL zL, sL zL, sV (.int .i64 0)] strt25 zero25 rfl .nil) ?_
   refine sf 1 3 [sL zL, sL zL, sV (.int .i64 0)] (aggV_cells _) (oL (oL (oI oN))) size25 ?_
   refine an ?_
   refine an ?_
   refine nt hK60 ?_
   refine G.ret ?_
   obtain rfl := Option.some.inj h
   exact hret _ _ _ _ 5 (l2 e16 (l2 e28 (l2 e45 e57))) (.cons (.row (k := 1) rfl rfl row25 (by kernel_rfl)) (.cons (.tmp rfl) (.cons (.tmp rfl) .nil))) rfl rfl
  ·try dsimp only at h
   obtain ⟨t61, wt61, h⟩ := bind_some' h
   refine st (OS.invoke (by decide) rfl meth31_Item fb46 (node_Inner_Item_ok x41 wt61) (fun v62 S63 e64 z65 => ?_))
   replace q2 := q2.up e64
   replace q19 := q19.up e64
   replace q39 := q39.up e64
   obtain rfl := z65
   refine vl (Y.field 2 1 [sL t61.sum] rfl ⟨_, _, Tryz.underlying29, rfl, rfl, rfl⟩ rfl rfl row23 (by kernel_rfl)) ?_
   refine sf 0 1 [sL t61.sum] (aggV_cells _) (oL oN) size23 ?_
   refine nt hK32 ?_
   refine G.seq (fun _ hK66 => ?_)
   refine sr (fun _ hK67 => ?_)
   refine lb 0 0 1 [sL t61.sum] row23 ?_
   refine lb 4 0 1 [sL a0] row23 ?_
   refine vl (Y.neA rfl rfl eqt23 (by decide) (EqV.lab _ _ Tryz.underlying23 one5 Tryz.underlying5)) ?_
   refine nt hK67 ?_
   refine G.cond _ rfl (fun c68 => ?_) (fun c68 => ?_)
   ·replace h := ite_t c68 h
    refine sr (fun _ hK69 => ?_)
    refine vl (Y.buildE _ [sL zL, sL zL, sV (.int .i64 0)] strt25 zero25 rfl .nil) ?_
    refine sf 1 3 [sL zL, sL zL, sV (.int .i64 0)] (aggV_cells _) (oL (oL (oI oN))) size25 ?_
    refine an ?_
    refine an ?_
    refine nt hK69 ?_
    refine G.ret ?_
    obtain rfl := Option.some.inj h
    exact hret _ _ _ _ 5 (l2 e16 (l2 e28 e64)) (.cons (.row (k := 1) rfl rfl row25 (by kernel_rfl)) (.cons (.tmp rfl) (.cons (.tmp rfl) .nil))) rfl rfl
   replace h := ite_f c68 h
   refine sk hK66 ?_
   refine G.seq (fun _ hK70 => ?_)
   refine sr (fun _ hK71 => ?_)
   refine vl (Y.fieldAddr 0 rfl fld34_0 rfl) ?_
   refine lv 2 0 one3 ?_
   refine vl (Y.eqI rfl rfl) ?_
   refine mv ?_
   obtain ⟨b72, wb72, h⟩ := bind_some' h
   refine GO.joinB 6 47 (b72 = ·) (fun K74 hK74 => ?_) ?_
   ·replace h := wb72
    rcases Bool.eq_false_or_eq_true (a2.end_ == (1 : Int)) with c73 | c73
    ·replace h := ite_t c73 h
     refine gv 41 c73 (Y.fieldAddr 1 rfl fld34_1 rfl) ?_
     refine gv 41 c73 (Y.fieldAddr 1 rfl fld25_0 rfl) ?_
     refine gv 41 c73 (Y.loadB 2  1 1 [sL a2.leaf.label] rfl rfl rfl rfl row23 (by kernel_rfl)) ?_
     refine gv 41 c73 (Y.loadB 3  0 1 [sL a1] rfl rfl rfl rfl row23 (by kernel_rfl)) ?_
     refine gv 41 c73 (Y.eqA rfl rfl eqt23 (by decide) (EqV.lab _ _ Tryz.underlying23 one5 Tryz.underlying5)) ?_
     refine vl (Y.pickT _ c73 rfl rfl) ?_
     refine GO.nil ?_
     refine p2 (p2 (p2 (p2 (p2 ?_))))
     exact hK74 _ _ l0 (Option.some.inj h).symm
    replace h := ite_f c73 h
    refine gf 41 c73 ?_
    refine gf 41 c73 ?_
    refine gf 41 c73 ?_
    refine gf 41 c73 ?_
    refine gf 41 c73 ?_
    refine vl (Y.pickF _ c73 rfl rfl) ?_
    refine GO.nil ?_
    refine p2 (p2 (p2 (p2 (p2 ?_))))
    exact hK74 _ _ l0 (Option.some.inj h).symm
   rintro _ S75 e76 rfl
   replace q2 := q2.up e76
   replace q19 := q19.up e76
   replace q39 := q39.up e76
   refine nt hK71 ?_
   refine G.cond _ rfl (fun c77 => ?_) (fun c77 => ?_)
   ·replace h := ite_t c77 h
    refine sr (fun _ hK78 => ?_)
    refine vl (Y.fieldAddr 1 rfl fld34_1 rfl) ?_
    refine lb 2 1 3 [sL a2.leaf.label, sL a2.leaf.value, sV (.int .i64 a2.leaf.at_)] row25 ?_
    refine sf 1 3 [sL a2.leaf.label, sL a2.leaf.value, sV (.int .i64 a2.leaf.at_)] (aggV_cells _) (oL (oL (oI oN))) size25 ?_
    refine an ?_
    refine an ?_
    refine nt hK78 ?_
    refine G.ret ?_
    obtain rfl := Option.some.inj h
    exact hret _ _ _ _ 5 (l2 e16 (l2 e28 (l2 e64 e76))) (.cons (.row (k := 1) rfl rfl row25 (by kernel_rfl)) (.cons (.tmp rfl) (.cons (.tmp rfl) .nil))) rfl rfl
   replace h := ite_f c77 h
   refine sk hK70 ?_
   refine sr (fun _ hK79 => ?_)
   refine vl (Y.buildE _ [sL zL, sL zL, sV (.int .i64 0)] strt25 zero25 rfl .nil) ?_
   refine sf 1 3 [sL zL, sL zL, sV (.int .i64 0)] (aggV_cells _) (oL (oL (oI oN))) size25 ?_
   refine an ?_
   refine an ?_
   refine nt hK79 ?_
   refine G.ret ?_
   obtain rfl := Option.some.inj h
   exact hret _ _ _ _ 5 (l2 e16 (l2 e28 (l2 e64 e76))) (.cons (.row (k := 1) rfl rfl row25 (by kernel_rfl)) (.cons (.tmp rfl) (.cons (.tmp rfl) .nil))) rfl rfl
  try dsimp only at h
  exact absurd h (by simp)
 replace h := ite_f c34 h
 refine sk hK32 ?_
 refine G.seq (fun _ hK80 => ?_)
 refine sr (fun _ hK81 => ?_)
 refine lb 0 0 1 [sL t25] row23 ?_
 refine lb 4 0 1 [sL a0] row23 ?_
 refine vl (Y.neA rfl rfl eqt23 (by decide) (EqV.lab _ _ Tryz.underlying23 one5 Tryz.underlying5)) ?_
 refine nt hK81 ?_
 refine G.cond _ rfl (fun c82 => ?_) (fun c82 => ?_)
 ·replace h := ite_t c82 h
  refine sr (fun _ hK83 => ?_)
  refine vl (Y.buildE _ [sL zL, sL zL, sV (.int .i64 0)] strt25 zero25 rfl .nil) ?_
  refine sf 1 3 [sL zL, sL zL, sV (.int .i64 0)] (aggV_cells _) (oL (oL (oI oN))) size25 ?_
  refine an ?_
  refine an ?_
  refine nt hK83 ?_
  refine G.ret ?_
  obtain rfl := Option.some.inj h
  exact hret _ _ _ _ 5 (l2 e16 e28) (.cons (.row (k := 1) rfl rfl row25 (by kernel_rfl)) (.cons (.tmp rfl) (.cons (.tmp rfl) .nil))) rfl rfl
 replace h := ite_f c82 h
 refine sk hK80 ?_
 refine G.seq (fun _ hK84 => ?_)
 refine sr (fun _ hK85 => ?_)
 refine vl (Y.fieldAddr 0 rfl fld34_0 rfl) ?_
 refine lv 2 0 one3 ?_
 refine vl (Y.eqI rfl rfl) ?_
 refine mv ?_
 obtain ⟨b86, wb86, h⟩ := bind_some' h
 refine GO.joinB 6 47 (b86 = ·) (fun K88 hK88 => ?_) ?_
 ·replace h := wb86
  rcases Bool.eq_false_or_eq_true (a2.end_ == (1 : Int)) with c87 | c87
  ·replace h := ite_t c87 h
   refine gv 41 c87 (Y.fieldAddr 1 rfl fld34_1 rfl) ?_
   refine gv 41 c87 (Y.fieldAddr 1 rfl fld25_0 rfl) ?_
   refine gv 41 c87 (Y.loadB 2  1 1 [sL a2.leaf.label] rfl rfl rfl rfl row23 (by kernel_rfl)) ?_
   refine gv 41 c87 (Y.loadB 3  0 1 [sL a1] rfl rfl rfl rfl row23 (by kernel_rfl)) ?_
   refine gv 41 c87 (Y.eqA rfl rfl eqt23 (by decide) (EqV.lab _ _ Tryz.underlying23 one5 Tryz.underlying5)) ?_
   refine vl (Y.pickT _ c87 rfl rfl) ?_
   refine GO.nil ?_
   refine p2 (p2 (p2 (p2 (p2 ?_))))
   exact hK88 _ _ l0 (Option.some.inj h).symm
  replace h := ite_f c87 h
  refine gf 41 c87 ?_
  refine gf 41 c87 ?_
  refine gf 41 c87 ?_
  refine gf 41 c87 ?_
  refine gf 41 c87 ?_
  refine vl (Y.pickF _ c87 rfl rfl) ?_
  refine GO.nil ?_
  refine p2 (p2 (p2 (p2 (p2 ?_))))
  exact hK88 _ _ l0 (Option.some.inj h).symm
 rintro _ S89 e90 rfl
 replace q2 := q2.up e90
 replace q19 := q19.up e90
 refine nt hK85 ?_
 refine G.cond _ rfl (fun c91 => ?_) (fun c91 => ?_)
 ·replace h := ite_t c91 h
  refine sr (fun _ hK92 => ?_)
  refine vl (Y.fieldAddr 1 rfl fld34_1 rfl) ?_
  refine lb 2 1 3 [sL a2.leaf.label, sL a2.leaf.value, sV (.int .i64 a2.leaf.at_)] row25 ?_
  refine sf 1 3 [sL a2.leaf.label, sL a2.leaf.value, sV (.int .i64 a2.leaf.at_)] (aggV_cells _) (oL (oL (oI oN))) size25 ?_
  refine an ?_
  refine an ?_
  refine nt hK92 ?_
  refine G.ret ?_
  obtain rfl := Option.some.inj h
  exact hret _ _ _ _ 5 (l2 e16 (l2 e28 e90)) (.cons (.row (k := 1) rfl rfl row25 (by kernel_rfl)) (.cons (.tmp rfl) (.cons (.tmp rfl) .nil))) rfl rfl
 replace h := ite_f c91 h
 refine sk hK84 ?_
 refine sr (fun _ hK93 => ?_)
 refine vl (Y.buildE _ [sL zL, sL zL, sV (.int .i64 0)] strt25 zero25 rfl .nil) ?_
 refine sf 1 3 [sL zL, sL zL, sV (.int .i64 0)] (aggV_cells _) (oL (oL (oI oN))) size25 ?_
 refine an ?_
 refine an ?_
 refine nt hK93 ?_
 refine G.ret ?_
 obtain rfl := Option.some.inj h
 exact hret _ _ _ _ 5 (l2 e16 (l2 e28 e90)) (.cons (.row (k := 1) rfl rfl row25 (by kernel_rfl)) (.cons (.tmp rfl) (.cons (.tmp rfl) .nil))) rfl rfl

/- chirograph/proof.Summed -/
/- chirograph/proof.Clash -/
/- chirograph/proof.sorted$1 -/
def proof_sorted_1  (a0 : Leaf) (a1 : Leaf) : Option Int :=
 ((bits_Order a0.label a1.label).bind fun t7 => some t7)

theorem proof_sorted_1_ok {S : Hp} (a0 : Leaf) (a1 : Leaf) {r : Int} (h : proof_sorted_1 a0 a1 = some r) : Fn Tryz.prog 120 [aggV [sL a0.label, sL a0.value, sV (.int .i64 a0.at_)], aggV [sL a1.label, sL a1.value, sV (.int .i64 a1.at_)]] S (fun v S' => v = .int .i64 r) := by
 unfold proof_sorted_1 at h
 refine fo [.tmp 4] 10 Tryz.func120 Tryz.ntmps120 (fun o F Q hQ hN hret => ?_)
 refine sr (fun _ hK1 => ?_)
 refine st (OS.boxA (by decide) rfl (fun ad2 => ?_))
 refine st (OS.boxA (by decide) rfl (fun ad4 => ?_))
 refine an ?_
 refine nt hK1 ?_
 refine sr (fun _ hK6 => ?_)
 refine vl (Y.fieldAddr 0 rfl fld25_0 rfl) ?_
 refine lb 1 0 1 [sL a0.label] row23 ?_
 refine vl (Y.fieldAddr 0 rfl fld25_0 rfl) ?_
 refine lb 0 0 1 [sL a1.label] row23 ?_
 obtain ⟨t7, wt7, h⟩ := bind_some' h
 refine st (cl fb121 (bits_Order_ok a0.label a1.label wt7) (fun v8 S9 e10 z11 => ?_))
 obtain rfl := z11
 refine an ?_
 refine nt hK6 ?_
 refine G.ret ?_
 obtain rfl := Option.some.inj h
 exact hret _ _ _ _ 2 e10 (.cons (.tmp rfl) .nil) rfl rfl

/- chirograph/proof.sorted -/
def proof_sorted (k : Nat) (a0 : (List Leaf)) : Option (List Leaf) :=
 ((slices_Clone_Leaf a0).bind fun t3 => ((slices_SortStableFunc_Leaf k t3 (fun x0₁ x1₁ => proof_sorted_1 x0₁ x1₁)).bind fun t10 => some t10))

theorem proof_sorted_ok {S : Hp} (k : Nat) (a0 : (List Leaf)) {va0 : Value} (qa0 : Sls S va0 a0) {r : (List Leaf)} (h : proof_sorted k a0 = some r) : Fn Tryz.prog 42 [va0] S (fun v S' => Sls S' v r) := by
 unfold proof_sorted at h
 refine fo [.tmp 2] 9 Tryz.func42 Tryz.ntmps42 (fun o F Q hQ hN hret => ?_)
 refine sr (fun _ hK1 => ?_)
 refine an ?_
 refine nt hK1 ?_
 refine sr (fun _ hK2 => ?_)
 refine mv ?_
 obtain ⟨t3, wt3, h⟩ := bind_some' h
 refine st (OS.callN _ (by decide) rfl fb118 (slices_Clone_Leaf_ok a0 qa0 wt3) (fun v4 S5 _ e6 z7 => ?_))
 replace qa0 := qa0.up e6
 obtain rfl := z7
 refine an ?_
 refine nt hK2 ?_
 refine sr (fun _ hK9 => ?_)
 refine mv ?_
 obtain ⟨t10, wt10, h⟩ := bind_some' h
 refine st (OS.callP 0 _ (by decide) rfl fb119 rfl (slices_SortStableFunc_Leaf_ok k (fv1 := 120) (cp1 := []) t3 (fun x0₁ x1₁ => proof_sorted_1 x0₁ x1₁) fb120 (fun S₁ e₁ x0₁ x1₁ r₁ h₁ => proof_sorted_1_ok x0₁ x1₁ h₁) wt10) (fun v11 S12 _ e13 z14 => ?_))
 replace qa0 := qa0.up e13
 obtain ⟨rfl, rfl⟩ := z14
 refine nt hK9 ?_
 refine sr (fun _ hK15 => ?_)
 refine mv ?_
 refine an ?_
 refine nt hK15 ?_
 refine G.ret ?_
 refine GX.shareR 0 rfl (fun S16 e17 q18 => ?_)
 replace qa0 := qa0.up e17
 obtain rfl := Option.some.inj h
 exact hret _ _ _ _ 1 (l2 e6 (l2 e13 e17)) (.cons (.tmp rfl) .nil) q18 rfl

/- chirograph/proof.sides$1 -/
def proof_sides_1  (a0 : Leaf) (a1 : Int) : Option Bool :=
 ((bits_Bit a0.label a1).bind fun t5 => some (t5 == (1 : Int)))

theorem proof_sides_1_ok {S : Hp} (a0 : Leaf) (a1 : Int) {b1 o1 : Nat} (qp1 : At S b1 o1 (cells [sV (.int .i64 a1)])) {r : Bool} (h : proof_sides_1 a0 a1 = some r) : Fn Tryz.prog 128 [aggV [sL a0.label, sL a0.value, sV (.int .i64 a0.at_)], .pointer (some ⟨b1, o1, none⟩)] S (fun v S' => v = .bool r) := by
 unfold proof_sides_1 at h
 refine fo [.tmp 3] 9 Tryz.func128 Tryz.ntmps128 (fun o F Q hQ hN hret => ?_)
 refine sr (fun _ hK1 => ?_)
 refine st (OS.boxA (by decide) rfl (fun ad2 => ?_))
 refine an ?_
 refine nt hK1 ?_
 refine sr (fun _ hK4 => ?_)
 refine vl (Y.fieldAddr 0 rfl fld25_0 rfl) ?_
 refine lb 0 0 1 [sL a0.label] row23 ?_
 refine vl (Y.loadSV _ rfl (At.val (At.part qp1 0 1 [sV (.int .i64 a1)] rfl rfl)) one3) ?_
 obtain ⟨t5, wt5, h⟩ := bind_some' h
 refine st (cl fb48 (bits_Bit_ok a0.label a1 wt5) (fun v6 S7 e8 z9 => ?_))
 replace qp1 := qp1.up e8
 obtain rfl := z9
 refine vl (Y.eqI rfl rfl) ?_
 refine an ?_
 refine nt hK4 ?_
 refine G.ret ?_
 obtain rfl := Option.some.inj h
 exact hret _ _ _ _ 1 e8 (.cons (.tmp rfl) .nil) rfl rfl

/- chirograph/proof.sides -/
def proof_sides  (a0 : (List Leaf)) (a1 : Int) : Option ((List Leaf) × (List Leaf)) :=
 ((slices_IndexFunc_Leaf a0 (fun x0₁ => proof_sides_1 x0₁ a1)).bind fun t8 => (if (decide (t8 < (0 : Int))) = true then ((req ((0 : Int) ≤ 0 ∧ 0 ≤ (lenI a0) ∧ (lenI a0) ≤ lenI a0)).bind fun _ => ((req ((0 : Int) ≤ (lenI a0) ∧ (lenI a0) ≤ (lenI a0) ∧ (lenI a0) ≤ lenI a0)).bind fun _ => some ((cutL a0 0 (lenI a0)), (cutL a0 (lenI a0) (lenI a0))))) else ((req ((0 : Int) ≤ 0 ∧ 0 ≤ t8 ∧ t8 ≤ lenI a0)).bind fun _ => ((req ((0 : Int) ≤ t8 ∧ t8 ≤ (lenI a0) ∧ (lenI a0) ≤ lenI a0)).bind fun _ => some ((cutL a0 0 t8), (cutL a0 t8 (lenI a0)))))))

theorem proof_sides_ok {S : Hp} (a0 : (List Leaf)) (a1 : Int) {va0 : Value} (qa0 : Sls S va0 a0) {r : (List Leaf) × (List Leaf)} (h : proof_sides a0 a1 = some r) : Fn Tryz.prog 47 [va0, .int .i64 a1] S (fun v S' => ∃ (v0₁ : Value) (v1₁ : Value), v = .tuple #[v0₁, v1₁] ∧ Sls S' v0₁ r.1 ∧ Sls S' v1₁ r.2) := by
 unfold proof_sides at h
 refine fo [.tmp 4, .tmp 5] 20 Tryz.func47 Tryz.ntmps47 (fun o F Q hQ hN hret => ?_)
 refine sr (fun _ hK1 => ?_)
 refine st (OS.boxV (by decide) rfl rfl (fun ad2 => ?_))
 refine an ?_
 refine an ?_
 refine nt hK1 ?_
 refine sr (fun _ hK4 => ?_)
 refine mv ?_
 refine GO.shareB 0 rfl (fun S5 e6 q7 => ?_)
 replace qa0 := qa0.up e6
 refine vl (Y.makeFunc rfl) ?_
 obtain ⟨t8, wt8, h⟩ := bind_some' h
 refine st (cl fb127 (slices_IndexFunc_Leaf_ok (fv1 := 128) (cp1 := [.pointer (some ⟨ad2, 0, none⟩)]) a0 (fun x0₁ => proof_sides_1 x0₁ a1) qa0 fb128 (fun S₁ e₁ x0₁ r₁ h₁ => proof_sides_1_ok x0₁ a1 (q7.up e₁) h₁) wt8) (fun v9 S10 e11 z12 => ?_))
 replace qa0 := qa0.up e11
 replace q7 := q7.up e11
 obtain rfl := z12
 refine an ?_
 refine nt hK4 ?_
 refine G.seq (fun _ hK13 => ?_)
 refine sr (fun _ hK14 => ?_)
 refine mv ?_
 refine vl (Y.ltI rfl rfl) ?_
 refine nt hK14 ?_
 refine G.cond _ rfl (fun c15 => ?_) (fun c15 => ?_)
 ·replace h := ite_t c15 h
  refine G.region ?_
  refine mv ?_
  refine vl (Y.lenS rfl qa0 slc35) ?_
  refine an ?_
  refine nt hK13 ?_
  refine G.seq (fun _ hK16 => ?_)
  obtain ⟨g18, h⟩ := req_bind h
  obtain ⟨g21, h⟩ := req_bind h
  refine G.cut (fun E₀ S₀ L₀ => ∃ (v22 : Value) (v19 : Value), S10.le S₀ ∧ Sls S₀ v22 (cutL a0 (lenI a0) (lenI a0)) ∧ Sls S₀ v19 (cutL a0 0 (lenI a0)) ∧ E₀ = [(5, v22), (4, v19)] ∧ (fun _ => True) :: F = L₀) (fun K17 hK17 => ?_) ?_
  ·refine G.drawN 8 mixed (by kernel_rfl) ?_
   refine tn 0 rfl hQ (fun _ _ _ => Y.move rfl) ?_
   refine tn 1 rfl hQ (fun _ _ _ => Y.move rfl) ?_
   refine tn 3 rfl hQ (fun _ _ _ => Y.move rfl) ?_
   refine tn 4 rfl hQ (fun _ _ _ => Y.move rfl) ?_
   refine GDr.any [2, 5] (by kernel_rfl) rfl (AllR.two ?_ ?_)
   ·refine n1 rfl (OS.sliceS 0 (lenI a0) none (some (.int .i64 (lenI a0))) (by decide) rfl qa0 slc35 rfl rfl (.inl ⟨rfl, rfl⟩) (.inr ⟨_, rfl⟩) g18 (fun v24 q25 => ⟨⟨[], .refl, l0⟩, ?_⟩))
    refine tn 6 rfl hQ (fun _ _ _ => Y.assign rfl) ?_
    refine g1 5 ?_
    refine n1 rfl (OS.sliceS (lenI a0) (lenI a0) (some (.int .i64 (lenI a0))) none (by decide) rfl qa0 slc35 rfl rfl (.inr ⟨_, rfl⟩) (.inl ⟨rfl, rfl⟩) g21 (fun v26 q27 => ⟨⟨[], .refl, l0⟩, ?_⟩))
    refine tn 7 rfl hQ (fun _ _ _ => Y.assign rfl) ?_
    refine dn ?_
    refine GX.keep [5, 4] rfl ?_
    exact hK17 _ _ _ ⟨v26, v24, l0, q27, q25, rfl, rfl⟩
   refine n1 rfl (OS.sliceS (lenI a0) (lenI a0) (some (.int .i64 (lenI a0))) none (by decide) rfl qa0 slc35 rfl rfl (.inr ⟨_, rfl⟩) (.inl ⟨rfl, rfl⟩) g21 (fun v28 q29 => ⟨⟨[], .refl, l0⟩, ?_⟩))
   refine g1 2 ?_
   refine n1 rfl (OS.sliceS 0 (lenI a0) none (some (.int .i64 (lenI a0))) (by decide) rfl qa0 slc35 rfl rfl (.inl ⟨rfl, rfl⟩) (.inr ⟨_, rfl⟩) g18 (fun v30 q31 => ⟨⟨[], .refl, l0⟩, ?_⟩))
   refine tn 6 rfl hQ (fun _ _ _ => Y.assign rfl) ?_
   refine tn 7 rfl hQ (fun _ _ _ => Y.assign rfl) ?_
   refine dn ?_
   refine GX.keep [5, 4] rfl ?_
   exact hK17 _ _ _ ⟨v28, v30, l0, q29, q31, rfl, rfl⟩
  rintro _ S32 _ ⟨v22, v19, e33, q23, q20, rfl, rfl⟩
  refine GX.then hK16 ?_
  refine G.ret ?_
  obtain rfl := Option.some.inj h
  exact hret _ _ _ _ 1 (l2 e6 (l2 e11 e33)) (.cons (.tmp rfl) (.cons (.tmp rfl) .nil)) ⟨_, _, rfl, q20, q23⟩ rfl
 replace h := ite_f c15 h
 refine sk hK13 ?_
 refine G.seq (fun _ hK34 => ?_)
 obtain ⟨g36, h⟩ := req_bind h
 obtain ⟨g39, h⟩ := req_bind h
 refine G.cut (fun E₀ S₀ L₀ => ∃ (v40 : Value) (v37 : Value), S10.le S₀ ∧ Sls S₀ v40 (cutL a0 t8 (lenI a0)) ∧ Sls S₀ v37 (cutL a0 0 t8) ∧ E₀ = [(5, v40), (4, v37)] ∧ (fun _ => True) :: F = L₀) (fun K35 hK35 => ?_) ?_
 ·refine G.drawN 8 mixed (by kernel_rfl) ?_
  refine tn 0 rfl hQ (fun _ _ _ => Y.move rfl) ?_
  refine tn 1 rfl hQ (fun _ _ _ => Y.move rfl) ?_
  refine tn 3 rfl hQ (fun _ _ _ => Y.move rfl) ?_
  refine tn 4 rfl hQ (fun _ _ _ => Y.move rfl) ?_
  refine GDr.any [2, 5] (by kernel_rfl) rfl (AllR.two ?_ ?_)
  ·refine n1 rfl (OS.sliceS 0 t8 none (some (.int .i64 t8)) (by decide) rfl qa0 slc35 rfl rfl (.inl ⟨rfl, rfl⟩) (.inr ⟨_, rfl⟩) g36 (fun v42 q43 => ⟨⟨[], .refl, l0⟩, ?_⟩))
   refine tn 6 rfl hQ (fun _ _ _ => Y.assign rfl) ?_
   refine g1 5 ?_
   refine n1 rfl (OS.sliceS t8 (lenI a0) (some (.int .i64 t8)) none (by decide) rfl qa0 slc35 rfl rfl (.inr ⟨_, rfl⟩) (.inl ⟨rfl, rfl⟩) g39 (fun v44 q45 => ⟨⟨[], .refl, l0⟩, ?_⟩))
   refine tn 7 rfl hQ (fun _ _ _ => Y.assign rfl) ?_
   refine dn ?_
   refine GX.keep [5, 4] rfl ?_
   exact hK35 _ _ _ ⟨v44, v42, l0, q45, q43, rfl, rfl⟩
  refine n1 rfl (OS.sliceS t8 (lenI a0) (some (.int .i64 t8)) none (by decide) rfl qa0 slc35 rfl rfl (.inr ⟨_, rfl⟩) (.inl ⟨rfl, rfl⟩) g39 (fun v46 q47 => ⟨⟨[], .refl, l0⟩, ?_⟩))
  refine g1 2 ?_
  refine n1 rfl (OS.sliceS 0 t8 none (some (.int .i64 t8)) (by decide) rfl qa0 slc35 rfl rfl (.inl ⟨rfl, rfl⟩) (.inr ⟨_, rfl⟩) g36 (fun v48 q49 => ⟨⟨[], .refl, l0⟩, ?_⟩))
  refine tn 6 rfl hQ (fun _ _ _ => Y.assign rfl) ?_
  refine tn 7 rfl hQ (fun _ _ _ => Y.assign rfl) ?_
  refine dn ?_
  refine GX.keep [5, 4] rfl ?_
  exact hK35 _ _ _ ⟨v46, v48, l0, q47, q49, rfl, rfl⟩
 rintro _ S50 _ ⟨v40, v37, e51, q41, q38, rfl, rfl⟩
 refine GX.then hK34 ?_
 refine G.ret ?_
 obtain rfl := Option.some.inj h
 exact hret _ _ _ _ 1 (l2 e6 (l2 e11 e51)) (.cons (.tmp rfl) (.cons (.tmp rfl) .nil)) ⟨_, _, rfl, q38, q41⟩ rfl

/- chirograph/proof.pair -/
def proof_pair (rec : (List Leaf) → Option Item) (a0 : (List Leaf)) : Option Inner :=
 ((req ((0 : Int) ≤ (0 : Int) ∧ (0 : Int) < lenI a0)).bind fun _ => ((req ((0 : Int) ≤ (wrap64 ((lenI a0) - (1 : Int))) ∧ (wrap64 ((lenI a0) - (1 : Int))) < lenI a0)).bind fun _ => ((bits_Common ((getI a0 (0 : Int)).label) ((getI a0 (wrap64 ((lenI a0) - (1 : Int)))).label)).bind fun t15 => ((proof_sides a0 t15).bind fun t23 => ((rec t23.1).bind fun t54 => ((rec t23.2).bind fun t59 => some (⟨t54, t59⟩ : Inner)))))))

theorem proof_pair_ok {S : Hp} (rec : (List Leaf) → Option Item) (hrec : ∀ S₁, S.le S₁ → ∀ (a₁ : (List Leaf)) {v₁ : Value} (q₁ : Sls S₁ v₁ a₁) {r₁ : Item} (h₁ : rec a₁ = some r₁), Fn Tryz.prog 125 [v₁] S₁ (fun v S' => v = aggV [sV (.int .i64 r₁.len), sL r₁.bits, sL r₁.sum, sV (.int .i64 r₁.at_)])) (a0 : (List Leaf)) {va0 : Value} (qa0 : Sls S va0 a0) {r : Inner} (h : proof_pair rec a0 = some r) : Fn Tryz.prog 45 [va0] S (fun v S' => v = aggV [sV (.int .i64 r.l.len), sL r.l.bits, sL r.l.sum, sV (.int .i64 r.l.at_), sV (.int .i64 r.r.len), sL r.r.bits, sL r.r.sum, sV (.int .i64 r.r.at_)]) := by
 unfold proof_pair at h
 refine fo [.cell 2 31] 27 Tryz.func45 Tryz.ntmps45 (fun o F Q hQ hN hret => ?_)
 refine sr (fun _ hK1 => ?_)
 refine st (OS.alloc _ (by decide) zero31 (fun ad2 => ?_))
 refine nt hK1 ?_
 refine G.seq (fun _ hK4 => ?_)
 obtain ⟨g5, h⟩ := req_bind h
 obtain ⟨ad6, p7, z8, q9⟩ := Sls.at qa0 g5
 obtain ⟨g10, h⟩ := req_bind h
 obtain ⟨ad11, p12, z13, q14⟩ := Sls.at qa0 g10
 obtain ⟨t15, wt15, h⟩ := bind_some' h
 obtain ⟨t23, wt23, h⟩ := bind_some' h
 refine G.drawN 19 mixed (by kernel_rfl) ?_
 refine tn 0 rfl hQ (fun _ _ _ => Y.move rfl) ?_
 refine tn 1 rfl hQ (fun _ _ _ => Y.move rfl) ?_
 refine tn 2 rfl hQ (fun _ _ _ => Y.idxS rfl z8 rfl slc35 g5) ?_
 refine tn 3 rfl hQ (fun _ _ _ => Y.fieldAddr _ rfl fld25_0 rfl) ?_
 refine tn 4 rfl hQ (fun S₀ X₀ e₀ => Y.loadS [sL ((getI a0 (0 : Int)).label)] rfl (At.part (q9.up e₀) 0 1 _ rfl rfl) row23 (by kernel_rfl)) ?_
 refine tn 5 rfl hQ (fun _ _ _ => Y.move rfl) ?_
 refine tn 6 rfl hQ (fun _ _ _ => Y.move rfl) ?_
 refine tn 7 rfl hQ (fun S₀ X₀ e₀ => Y.lenS rfl (qa0.up e₀) slc35) ?_
 refine tn 8 rfl hQ (fun _ _ _ => Y.subI rfl rfl) ?_
 refine tn 9 rfl hQ (fun _ _ _ => Y.idxS rfl z13 rfl slc35 g10) ?_
 refine tn 10 rfl hQ (fun _ _ _ => Y.fieldAddr _ rfl fld25_0 rfl) ?_
 refine tn 11 rfl hQ (fun S₀ X₀ e₀ => Y.loadS [sL ((getI a0 (wrap64 ((lenI a0) - (1 : Int)))).label)] rfl (At.part (q14.up e₀) 0 1 _ rfl rfl) row23 (by kernel_rfl)) ?_
 refine g1 12 ?_
 refine n1 rfl (cl fb124 (bits_Common_ok ((getI a0 (0 : Int)).label) ((getI a0 (wrap64 ((lenI a0) - (1 : Int)))).label) wt15) (fun v35 S36 e37 z38 => ⟨⟨[], .refl, e37⟩, ?_⟩))
 have q39 := qa0.up e37
 have q40 := q9.up e37
 have q41 := q14.up e37
 obtain rfl := z38
 refine g1 13 ?_
 refine n1 rfl (cl fb47 (proof_sides_ok a0 t15 q39 wt23) (fun v42 S43 e44 z45 => ⟨⟨[], .refl, (l2 e37 e44)⟩, ?_⟩))
 have q46 := q39.up e44
 have q47 := q40.up e44
 have q48 := q41.up e44
 obtain ⟨v49, v51, rfl, q50, q52⟩ := z45
 refine tn 14 rfl hQ (fun _ _ _ => Y.move rfl) ?_
 refine tn 15 rfl hQ (fun _ _ _ => Y.extract _ rfl rfl) ?_
 refine tn 16 rfl hQ (fun _ _ _ => Y.extract _ rfl rfl) ?_
 refine tn 17 rfl hQ (fun _ _ _ => Y.assign rfl) ?_
 refine tn 18 rfl hQ (fun _ _ _ => Y.assign rfl) ?_
 refine dn ?_
 refine GX.then hK4 ?_
 refine sr (fun _ hK53 => ?_)
 refine mv ?_
 obtain ⟨t54, wt54, h⟩ := bind_some' h
 refine st (cl fb125 (hrec _ (l2 e37 e44) t23.1 q50 wt54) (fun v55 S56 e57 z58 => ?_))
 replace q46 := q46.up e57
 replace q50 := q50.up e57
 replace q52 := q52.up e57
 obtain rfl := z58
 refine mv ?_
 obtain ⟨t59, wt59, h⟩ := bind_some' h
 refine st (cl fb125 (hrec _ (l2 e37 (l2 e44 e57)) t23.2 q52 wt59) (fun v60 S61 e62 z63 => ?_))
 replace q46 := q46.up e62
 replace q50 := q50.up e62
 replace q52 := q52.up e62
 obtain rfl := z63
 refine vl (Y.buildE _ [sV (.int .i64 t54.len), sL t54.bits, sL t54.sum, sV (.int .i64 t54.at_), sV (.int .i64 t59.len), sL t59.bits, sL t59.sum, sV (.int .i64 t59.at_)] strt31 zero31 rfl (.cons 0 4 [sV (.int .i64 t54.len), sL t54.bits, sL t54.sum, sV (.int .i64 t54.at_)] rfl (aggV_cells _) rfl rfl rfl (.cons 4 4 [sV (.int .i64 t59.len), sL t59.bits, sL t59.sum, sV (.int .i64 t59.at_)] rfl (aggV_cells _) rfl rfl rfl .nil))) ?_
 refine sf 0 8 [sV (.int .i64 t54.len), sL t54.bits, sL t54.sum, sV (.int .i64 t54.at_), sV (.int .i64 t59.len), sL t59.bits, sL t59.sum, sV (.int .i64 t59.at_)] (aggV_cells _) (oI (oL (oL (oI (oI (oL (oL (oI oN)))))))) size31 ?_
 refine nt hK53 ?_
 refine G.ret ?_
 obtain rfl := Option.some.inj h
 exact hret _ _ _ _ 1 (l2 e37 (l2 e44 (l2 e57 e62))) (.cons (.row (k := 0) rfl rfl row31 (by kernel_rfl)) .nil) rfl rfl

/- chirograph/proof.item -/
def proof_item : Nat → (List Leaf) → Option Item
 | 0 => fun _ => none
 | k + 1 => fun a0 =>
 (if ((lenI a0) == (1 : Int)) = true then ((req ((0 : Int) ≤ (0 : Int) ∧ (0 : Int) < lenI a0)).bind fun _ => ((node_Leaf_Item (getI a0 (0 : Int))).bind fun t13 => some t13)) else ((proof_pair (proof_item k) a0).bind fun t19 => ((node_Inner_Item t19).bind fun t24 => some t24)))

theorem proof_item_ok (k : Nat) : ∀ {S : Hp} (a0 : (List Leaf)) {va0 : Value} (qa0 : Sls S va0 a0) {r : Item} (h : proof_item k a0 = some r), Fn Tryz.prog 125 [va0] S (fun v S' => v = aggV [sV (.int .i64 r.len), sL r.bits, sL r.sum, sV (.int .i64 r.at_)]) := by
 induction k with
 | zero => intro S; intros; rename_i h; simp [proof_item] at h
 | succ k ih =>
 intro S a0 va0 qa0 r h
 rw [proof_item] at h
 replace ih := @ih
 refine fo [.cell 2 29] 13 Tryz.func125 Tryz.ntmps125 (fun o F Q hQ hN hret => ?_)
 refine sr (fun _ hK1 => ?_)
 refine st (OS.alloc _ (by decide) zero29 (fun ad2 => ?_))
 refine nt hK1 ?_
 refine G.seq (fun _ hK4 => ?_)
 refine sr (fun _ hK5 => ?_)
 refine mv ?_
 refine vl (Y.lenS rfl qa0 slc35) ?_
 refine vl (Y.eqI rfl rfl) ?_
 refine nt hK5 ?_
 refine G.cond _ rfl (fun c6 => ?_) (fun c6 => ?_)
 ·replace h := ite_t c6 h
  refine sr (fun _ hK7 => ?_)
  refine mv ?_
  obtain ⟨g8, h⟩ := req_bind h
  obtain ⟨ad9, p10, z11, q12⟩ := Sls.at qa0 g8
  refine vl (Y.idxS rfl z11 rfl slc35 g8) ?_
  refine vl (Y.loadS [sL ((getI a0 (0 : Int)).label), sL ((getI a0 (0 : Int)).value), sV (.int .i64 ((getI a0 (0 : Int)).at_))] rfl (At.part q12 0 3 _ rfl rfl) row25 (by kernel_rfl)) ?_
  obtain ⟨t13, wt13, h⟩ := bind_some' h
  refine st (cl fb53 (node_Leaf_Item_ok (getI a0 (0 : Int)) wt13) (fun v14 S15 e16 z17 => ?_))
  replace qa0 := qa0.up e16
  replace q12 := q12.up e16
  obtain rfl := z17
  refine sf 0 4 [sV (.int .i64 t13.len), sL t13.bits, sL t13.sum, sV (.int .i64 t13.at_)] (aggV_cells _) (oI (oL (oL (oI oN)))) size29 ?_
  refine nt hK7 ?_
  refine G.ret ?_
  obtain rfl := Option.some.inj h
  exact hret _ _ _ _ 1 e16 (.cons (.row (k := 0) rfl rfl row29 (by kernel_rfl)) .nil) rfl rfl
 replace h := ite_f c6 h
 refine sk hK4 ?_
 refine sr (fun _ hK18 => ?_)
 refine mv ?_
 obtain ⟨t19, wt19, h⟩ := bind_some' h
 refine st (cl fb45 (proof_pair_ok (proof_item k) (fun S₁ e₁ a₁ v₁ q₁ r₁ h₁ => ih a₁ q₁ h₁) a0 qa0 wt19) (fun v20 S21 e22 z23 => ?_))
 replace qa0 := qa0.up e22
 obtain rfl := z23
 obtain ⟨t24, wt24, h⟩ := bind_some' h
 refine st (cl fb46 (node_Inner_Item_ok t19 wt24) (fun v25 S26 e27 z28 => ?_))
 replace qa0 := qa0.up e27
 obtain rfl := z28
 refine sf 0 4 [sV (.int .i64 t24.len), sL t24.bits, sL t24.sum, sV (.int .i64 t24.at_)] (aggV_cells _) (oI (oL (oL (oI oN)))) size29 ?_
 refine nt hK18 ?_
 refine G.ret ?_
 obtain rfl := Option.some.inj h
 exact hret _ _ _ _ 1 (l2 e22 e27) (.cons (.row (k := 0) rfl rfl row29 (by kernel_rfl)) .nil) rfl rfl

end
end Go.Ch
end
section
/- Functions of the program: what each comes to, proved. -/
set_option linter.unusedVariables false
set_option linter.unusedSimpArgs false
set_option maxRecDepth 100000
set_option maxHeartbeats 4000000
namespace Go.Ch
open Go.RowKit (wrap64)
open Go.Proofs
noncomputable section
/- chirograph/chirographref03.Bytes -/
/- chirograph/chirographref03.Begin -/
def r03_Begin   : Option (Vector UInt32 8) :=
 some #v[1779033703, 3144134277, 1013904242, 2773480762, 1359893119, 2600822924, 528734635, 1541459225]

/- chirograph/chirographref03.Steps -/
def r03_Steps_k0 : Vector UInt32 64 := #v[1116352408, 1899447441, 3049323471, 3921009573, 961987163, 1508970993, 2453635748, 2870763221, 3624381080, 310598401, 607225278, 1426881987, 1925078388, 2162078206, 2614888103, 3248222580, 3835390401, 4022224774, 264347078, 604807628, 770255983, 1249150122, 1555081692, 1996064986, 2554220882, 2821834349, 2952996808, 3210313671, 3336571891, 3584528711, 113926993, 338241895, 666307205, 773529912, 1294757372, 1396182291, 1695183700, 1986661051, 2177026350, 2456956037, 2730485921, 2820302411, 3259730800, 3345764771, 3516065817, 3600352804, 4094571909, 275423344, 430227734, 506948616, 659060556, 883997877, 958139571, 1322822218, 1537002063, 1747873779, 1955562222, 2024104815, 2227730452, 2361852424, 2428436474, 2756734187, 3204031479, 3329325298]

def r03_Steps   : Option (Vector UInt32 64) :=
 some r03_Steps_k0

/- chirograph/chirographref03.Padded -/
def r03_Padded_s2 (a0 : Str) : (Int × (List UInt8)) → Option ((Int × (List UInt8)) ⊕ (Int × (List UInt8)))
 | (x31, x32) => (if (decide (x31 < (8 : Int))) = true then ((req (0 ≤ (wrap64 ((56 : Int) - (wrap64 ((8 : Int) * x31)))))).bind fun _ => ((req (List.length x32 + List.length ([(hr_u64 ((u64I (lenI a0)) * 8) (wrap64 ((56 : Int) - (wrap64 ((8 : Int) * x31))))).toUInt8] : List UInt8) ≤ LIM)).bind fun _ => some (.inl ((wrap64 (x31 + (1 : Int))), (x32 ++ ([(hr_u64 ((u64I (lenI a0)) * 8) (wrap64 ((56 : Int) - (wrap64 ((8 : Int) * x31))))).toUInt8] : List UInt8)))))) else some (.inr (x31, x32)))

def r03_Padded_s1  : ((List UInt8)) → Option (((List UInt8)) ⊕ ((List UInt8)))
 | x12 => (if ((Int.tmod (lenI x12) (64 : Int)) != (56 : Int)) = true then ((req (List.length x12 + List.length ([0] : List UInt8) ≤ LIM)).bind fun _ => some (.inl (x12 ++ ([0] : List UInt8)))) else some (.inr x12))

def r03_Padded  (a0 : Str) : Option (List UInt8) :=
 ((req (List.length a0 + List.length ([128] : List UInt8) ≤ LIM)).bind fun _ => ((iter (r03_Padded_s1) (a0 ++ ([128] : List UInt8))).bind fun b15 => (match b15 with | x12 => ((iter (r03_Padded_s2 a0) ((0 : Int), x12)).bind fun b35 => (match b35 with | (x31, x32) => some x32)))))

/- chirograph/chirographref03.right -/
def r03_right  (a0 : UInt32) (a1 : Int) : Option UInt32 :=
 ((req (0 ≤ a1)).bind fun _ => ((req (0 ≤ (wrap64 ((32 : Int) - a1)))).bind fun _ => some ((hr_u32 a0 a1) ||| (hl_u32 a0 (wrap64 ((32 : Int) - a1))))))

/- chirograph/chirographref03.Words -/
def r03_Words_s2  : (Int × (Vector UInt32 64)) → Option ((Int × (Vector UInt32 64)) ⊕ (Int × (Vector UInt32 64)))
 | (x47, x48) => (if (decide (x47 < (64 : Int))) = true then ((req ((0 : Int) ≤ (wrap64 (x47 - (15 : Int))) ∧ (wrap64 (x47 - (15 : Int))) < (64 : Nat))).bind fun _ => ((r03_right (getV x48 (wrap64 (x47 - (15 : Int)))) (7 : Int)).bind fun t58 => ((req ((0 : Int) ≤ (wrap64 (x47 - (15 : Int))) ∧ (wrap64 (x47 - (15 : Int))) < (64 : Nat))).bind fun _ => ((r03_right (getV x48 (wrap64 (x47 - (15 : Int)))) (18 : Int)).bind fun t64 => ((req ((0 : Int) ≤ (wrap64 (x47 - (15 : Int))) ∧ (wrap64 (x47 - (15 : Int))) < (64 : Nat))).bind fun _ => ((req ((0 : Int) ≤ (wrap64 (x47 - (2 : Int))) ∧ (wrap64 (x47 - (2 : Int))) < (64 : Nat))).bind fun _ => ((r03_right (getV x48 (wrap64 (x47 - (2 : Int)))) (17 : Int)).bind fun t80 => ((req ((0 : Int) ≤ (wrap64 (x47 - (2 : Int))) ∧ (wrap64 (x47 - (2 : Int))) < (64 : Nat))).bind fun _ => ((r03_right (getV x48 (wrap64 (x47 - (2 : Int)))) (19 : Int)).bind fun t86 => ((req ((0 : Int) ≤ (wrap64 (x47 - (2 : Int))) ∧ (wrap64 (x47 - (2 : Int))) < (64 : Nat))).bind fun _ => ((req ((0 : Int) ≤ (wrap64 (x47 - (16 : Int))) ∧ (wrap64 (x47 - (16 : Int))) < (64 : Nat))).bind fun _ => ((req ((0 : Int) ≤ (wrap64 (x47 - (7 : Int))) ∧ (wrap64 (x47 - (7 : Int))) < (64 : Nat))).bind fun _ => ((req ((0 : Int) ≤ x47 ∧ x47 < (64 : Nat))).bind fun _ => some (.inl ((wrap64 (x47 + (1 : Int))), (setV x48 x47 ((((getV x48 (wrap64 (x47 - (16 : Int)))) + ((t58 ^^^ t64) ^^^ (hr_u32 (getV x48 (wrap64 (x47 - (15 : Int)))) 3))) + (getV x48 (wrap64 (x47 - (7 : Int))))) + ((t80 ^^^ t86) ^^^ (hr_u32 (getV x48 (wrap64 (x47 - (2 : Int)))) 10))))))))))))))))))) else some (.inr (x47, x48)))

def r03_Words_s1 (a0 : (List UInt8)) : (Int × (Vector UInt32 64)) → Option ((Int × (Vector UInt32 64)) ⊕ (Int × (Vector UInt32 64)))
 | (x11, x12) => (if (decide (x11 < (16 : Int))) = true then ((req ((0 : Int) ≤ (wrap64 ((4 : Int) * x11)) ∧ (wrap64 ((4 : Int) * x11)) < lenI a0)).bind fun _ => ((req ((0 : Int) ≤ (wrap64 ((wrap64 ((4 : Int) * x11)) + (1 : Int))) ∧ (wrap64 ((wrap64 ((4 : Int) * x11)) + (1 : Int))) < lenI a0)).bind fun _ => ((req ((0 : Int) ≤ (wrap64 ((wrap64 ((4 : Int) * x11)) + (2 : Int))) ∧ (wrap64 ((wrap64 ((4 : Int) * x11)) + (2 : Int))) < lenI a0)).bind fun _ => ((req ((0 : Int) ≤ (wrap64 ((wrap64 ((4 : Int) * x11)) + (3 : Int))) ∧ (wrap64 ((wrap64 ((4 : Int) * x11)) + (3 : Int))) < lenI a0)).bind fun _ => ((req ((0 : Int) ≤ x11 ∧ x11 < (64 : Nat))).bind fun _ => some (.inl ((wrap64 (x11 + (1 : Int))), (setV x12 x11 ((((hl_u32 (((getI a0 (wrap64 ((4 : Int) * x11))).toUInt32) * 1) 24) + (hl_u32 (((getI a0 (wrap64 ((wrap64 ((4 : Int) * x11)) + (1 : Int)))).toUInt32) * 1) 16)) + (hl_u32 (((getI a0 (wrap64 ((wrap64 ((4 : Int) * x11)) + (2 : Int)))).toUInt32) * 1) 8)) + ((getI a0 (wrap64 ((wrap64 ((4 : Int) * x11)) + (3 : Int)))).toUInt32)))))))))) else some (.inr (x11, x12)))

def r03_Words  (a0 : (List UInt8)) : Option (Vector UInt32 64) :=
 ((iter (r03_Words_s1 a0) ((0 : Int), (Vector.replicate 64 0))).bind fun b14 => (match b14 with | (x11, x12) => ((iter (r03_Words_s2) ((16 : Int), x12)).bind fun b50 => (match b50 with | (x47, x48) => some x48))))

end
end Go.Ch
end
section
/- Functions of the program: what each comes to, proved. -/
set_option linter.unusedVariables false
set_option linter.unusedSimpArgs false
set_option maxRecDepth 100000
set_option maxHeartbeats 4000000
namespace Go.Ch
open Go.RowKit (wrap64)
open Go.Proofs
noncomputable section
/- chirograph/chirographref01.Bit -/
def r01_Bit_s1  : (Int × Int) → Option ((Int × Int) ⊕ (Int × Int))
 | (x19, x20) => (if (decide (x19 < (7 : Int))) = true then some (.inl ((wrap64 (x19 + (1 : Int))), (wrap64 (Int.tdiv x20 (2 : Int))))) else some (.inr (x19, x20)))

def r01_Bit  (a0 : Lab) (a1 : Int) : Option Int :=
 ((if (decide (a1 < (0 : Int))) = true then some true else some (decide ((255 : Int) < a1))).bind fun b6 => (if b6 = true then some (0 : Int) else ((req ((0 : Int) ≤ (wrap64 (Int.tdiv a1 (8 : Int))) ∧ (wrap64 (Int.tdiv a1 (8 : Int))) < (32 : Nat))).bind fun _ => ((iter (r01_Bit_s1) ((Int.tmod a1 (8 : Int)), ((getV a0 (wrap64 (Int.tdiv a1 (8 : Int)))).toNat : Int))).bind fun b22 => (match b22 with | (x19, x20) => some (Int.tmod x20 (2 : Int)))))))

theorem r01_Bit_ok {S : Hp} (a0 : Lab) (a1 : Int) {r : Int} (h : r01_Bit a0 a1 = some r) : Fn Tryz.prog 63 [aggV [sL a0], .int .i64 a1] S (fun v S' => v = .int .i64 r) := by
 unfold r01_Bit at h
 refine fo [.tmp 4] 28 Tryz.func63 Tryz.ntmps63 (fun o F Q hQ hN hret => ?_)
 refine sr (fun _ hK1 => ?_)
 refine st (OS.boxA (by decide) rfl (fun ad2 => ?_))
 refine an ?_
 refine nt hK1 ?_
 refine G.seq (fun _ hK4 => ?_)
 refine sr (fun _ hK5 => ?_)
 refine mv ?_
 refine vl (Y.ltI rfl rfl) ?_
 refine mv ?_
 obtain ⟨b6, wb6, h⟩ := bind_some' h
 refine GO.joinB 3 12 (b6 = ·) (fun K8 hK8 => ?_) ?_
 ·replace h := wb6
  rcases Bool.eq_false_or_eq_true (decide (a1 < (0 : Int))) with c7 | c7
  ·replace h := ite_t c7 h
   refine gf 9 c7 ?_
   refine gf 9 c7 ?_
   refine vl (Y.pickT _ c7 rfl rfl) ?_
   refine GO.nil ?_
   refine p2 (p2 ?_)
   exact hK8 _ _ l0 (Option.some.inj h).symm
  replace h := ite_f c7 h
  refine gv 9 c7 (Y.move rfl) ?_
  refine gv 9 c7 (Y.gtI rfl rfl) ?_
  refine vl (Y.pickF _ c7 rfl rfl) ?_
  refine GO.nil ?_
  refine p2 (p2 ?_)
  exact hK8 _ _ l0 (Option.some.inj h).symm
 rintro _ S9 e10 rfl
 refine nt hK5 ?_
 refine G.cond _ rfl (fun c11 => ?_) (fun c11 => ?_)
 ·replace h := ite_t c11 h
  refine sr (fun _ hK12 => ?_)
  refine an ?_
  refine nt hK12 ?_
  refine G.ret ?_
  obtain rfl := Option.some.inj h
  exact hret _ _ _ _ 1 e10 (.cons (.tmp rfl) .nil) rfl rfl
 replace h := ite_f c11 h
 refine sk hK4 ?_
 refine sr (fun _ hK13 => ?_)
 refine mv ?_
 refine vl (Y.quoI rfl rfl (by decide)) ?_
 obtain ⟨g14, h⟩ := req_bind h
 refine vl (Y.idxA rfl rfl arr23 g14) ?_
 refine vl (Y.loadE 0  0 _ _ rfl rfl rfl rfl (at_sL _ _ g14) one5) ?_
 refine vl (Y.cv_u8_i64 (a := (getV a0 (wrap64 (Int.tdiv a1 (8 : Int))))) rfl int5 int3) ?_
 refine an ?_
 refine nt hK13 ?_
 refine G.seq (fun _ hK15 => ?_)
 refine sr (fun _ hK16 => ?_)
 refine mv ?_
 refine vl (Y.remI rfl rfl (by decide)) ?_
 refine an ?_
 refine nt hK16 ?_
 refine G.block ?_
 obtain ⟨b22, wb22, ho23⟩ := bind_some' h
 refine G.keep [6, 5] rfl ?_
 refine G.loopK (r01_Bit_s1) (fun s₀ E' S' L' => match s₀ with | (x19, x20) => S9.le S' ∧ E' = [(6, .int .i64 x19), (5, .int .i64 x20)] ∧ Blk ad2 [sL a0] :: F = L') b22 0 (fun E₀ S₀ L₀ => ∃ (x19 : Int) (x20 : Int), S9.le S₀ ∧ b22 = (x19, x20) ∧ E₀ = [(5, .int .i64 x20)] ∧ Blk ad2 [sL a0] :: F = L₀) wb22 ?_ ?_ ?_
 ·rintro _ S28 _ ⟨x19, x20, e29, rfl, rfl, rfl⟩
  have h := ho23; clear ho23
  try dsimp only at h
  refine GX.exit_block ?_
  refine GX.then hK15 ?_
  refine sr (fun _ hK30 => ?_)
  refine mv ?_
  refine vl (Y.remI rfl rfl (by decide)) ?_
  refine an ?_
  refine nt hK30 ?_
  refine G.ret ?_
  obtain rfl := Option.some.inj h
  exact hret _ _ _ _ 1 (l2 e10 e29) (.cons (.tmp rfl) .nil) rfl rfl
 ·exact ⟨Hp.le_refl _, rfl, rfl⟩
 rintro ⟨x19, x20⟩ _ S17 _ ⟨e18, rfl, rfl⟩ out1 h hf1 K1 hK1 hx21
 rw [r01_Bit_s1] at h
 refine G.seq (fun _ hK24 => ?_)
 refine sr (fun _ hK25 => ?_)
 refine mv ?_
 refine vl (Y.ltI rfl rfl) ?_
 refine nt hK25 ?_
 refine G.cond _ rfl (fun c26 => ?_) (fun c26 => ?_)
 ·replace h := ite_t c26 h
  refine sk hK24 ?_
  refine G.seq (fun _ hK27 => ?_)
  refine G.block ?_
  refine G.region ?_
  refine mv ?_
  refine vl (Y.quoI rfl rfl (by decide)) ?_
  refine an ?_
  refine GO.nil ?_
  refine GX.normal_block ?_
  refine GX.then hK27 ?_
  refine G.region ?_
  refine mv ?_
  refine vl (Y.addI rfl rfl) ?_
  refine an ?_
  refine GO.nil ?_
  obtain rfl := Option.some.inj h
  refine GX.keep [6, 5] rfl ?_
  exact hK1 _ _ _ _ rfl ⟨e18, rfl, rfl⟩
 replace h := ite_f c26 h
 refine G.exit ?_
 refine GX.exit_then ?_
 obtain rfl := Option.some.inj h
 refine GX.keep [5] rfl ?_
 exact hx21 _ _ _ ⟨_, _, e18, (hf1 _ rfl).symm, rfl, rfl⟩

/- chirograph/chirographref01.Common -/
def r01_Common_s1 (a0 : Lab) (a1 : Lab) : (Int) → Option ((Int) ⊕ (Int))
 | x10 => ((if (decide (x10 < (256 : Int))) = true then ((r01_Bit a0 x10).bind fun t19 => ((r01_Bit a1 x10).bind fun t24 => some (t19 == t24))) else some false).bind fun b17 => (if b17 = true then some (.inl (wrap64 (x10 + (1 : Int)))) else some (.inr x10)))

def r01_Common  (a0 : Lab) (a1 : Lab) : Option Int :=
 ((iter (r01_Common_s1 a0 a1) (0 : Int)).bind fun b12 => (match b12 with | x10 => some x10))

theorem r01_Common_ok {S : Hp} (a0 : Lab) (a1 : Lab) {r : Int} (h : r01_Common a0 a1 = some r) : Fn Tryz.prog 135 [aggV [sL a0], aggV [sL a1]] S (fun v S' => v = .int .i64 r) := by
 unfold r01_Common at h
 refine fo [.tmp 4] 20 Tryz.func135 Tryz.ntmps135 (fun o F Q hQ hN hret => ?_)
 refine sr (fun _ hK1 => ?_)
 refine st (OS.boxA (by decide) rfl (fun ad2 => ?_))
 refine st (OS.boxA (by decide) rfl (fun ad4 => ?_))
 refine an ?_
 refine nt hK1 ?_
 refine sr (fun _ hK6 => ?_)
 refine an ?_
 refine nt hK6 ?_
 refine G.seq (fun _ hK7 => ?_)
 refine G.block ?_
 obtain ⟨b12, wb12, ho13⟩ := bind_some' h
 refine G.keep [5, 3, 2] rfl ?_
 refine G.loopK (r01_Common_s1 a0 a1) (fun s₀ E' S' L' => match s₀ with | x10 => S.le S' ∧ E' = [(5, .int .i64 x10), (3, .pointer (some ⟨ad4, 0, none⟩)), (2, .pointer (some ⟨ad2, 0, none⟩))] ∧ Blk ad4 [sL a1] :: Blk ad2 [sL a0] :: F = L') b12 0 (fun E₀ S₀ L₀ => ∃ (x10 : Int), S.le S₀ ∧ b12 = x10 ∧ E₀ = [(5, .int .i64 x10)] ∧ Blk ad4 [sL a1] :: Blk ad2 [sL a0] :: F = L₀) wb12 ?_ ?_ ?_
 ·rintro _ S40 _ ⟨x10, e41, rfl, rfl, rfl⟩
  have h := ho13; clear ho13
  try dsimp only at h
  refine GX.exit_block ?_
  refine GX.then hK7 ?_
  refine sr (fun _ hK42 => ?_)
  refine mv ?_
  refine an ?_
  refine nt hK42 ?_
  refine G.ret ?_
  obtain rfl := Option.some.inj h
  exact hret _ _ _ _ 2 e41 (.cons (.tmp rfl) .nil) rfl rfl
 ·exact ⟨Hp.le_refl _, rfl, rfl⟩
 rintro x10 _ S8 _ ⟨e9, rfl, rfl⟩ out1 h hf1 K1 hK1 hx11
 rw [r01_Common_s1] at h
 refine G.seq (fun _ hK14 => ?_)
 refine G.seq (fun _ hK15 => ?_)
 obtain ⟨b17, wb17, h⟩ := bind_some' h
 refine G.cut (fun E₀ S₀ L₀ => S8.le S₀ ∧ E₀ = [(16, .bool b17), (5, .int .i64 x10), (3, .pointer (some ⟨ad4, 0, none⟩)), (2, .pointer (some ⟨ad2, 0, none⟩))] ∧ Blk ad4 [sL a1] :: Blk ad2 [sL a0] :: F = L₀) (fun K16 hK16 => ?_) ?_
 ·replace h := wb17
  rcases Bool.eq_false_or_eq_true (decide (x10 < (256 : Int))) with c18 | c18
  ·replace h := ite_t c18 h
   obtain ⟨t19, wt19, h⟩ := bind_some' h
   obtain ⟨t24, wt24, h⟩ := bind_some' h
   obtain rfl := Option.some.inj h
   refine G.drawN 11 mixed (by kernel_rfl) ?_
   refine tn 0 rfl hQ (fun _ _ _ => Y.move rfl) ?_
   refine tn 1 rfl hQ (fun _ _ _ => Y.ltI rfl rfl) ?_
   refine tn 2 rfl hQ (fun _ _ _ => Y.move rfl) ?_
   refine tw 3 rfl .refl hQ (gi 8 c18) (fun S₀ X₀ e₀ => Y.loadB (X₀.length + 1)  0 1 [sL a0] rfl (Lk rfl) rfl rfl row23 (by kernel_rfl)) ?_
   refine tw 4 rfl .refl hQ (gi 8 c18) (fun _ _ _ => Y.move rfl) ?_
   refine tw 6 rfl .refl hQ (gi 8 c18) (fun S₀ X₀ e₀ => Y.loadB (X₀.length + 0)  0 1 [sL a1] rfl (Lk rfl) rfl rfl row23 (by kernel_rfl)) ?_
   refine tw 7 rfl .refl hQ (gi 8 c18) (fun _ _ _ => Y.move rfl) ?_
   refine g1 5 ?_
   refine GD1.on rfl (gi 8 c18) (by kernel_rfl) (cl fb63 (r01_Bit_ok a0 x10 wt19) (fun v29 S30 e31 z32 => ⟨⟨[], .refl, e31⟩, ?_⟩))
   obtain rfl := z32
   refine g1 8 ?_
   refine GD1.on rfl (gi 8 c18) (by kernel_rfl) (cl fb63 (r01_Bit_ok a1 x10 wt24) (fun v33 S34 e35 z36 => ⟨⟨[], .refl, (l2 e31 e35)⟩, ?_⟩))
   obtain rfl := z36
   refine tw 9 rfl .refl hQ (gi 8 c18) (fun _ _ _ => Y.eqI rfl rfl) ?_
   refine tn 10 rfl hQ (fun _ _ _ => Y.pickT _ c18 rfl rfl) ?_
   refine dn ?_
   refine GX.keep [16, 5, 3, 2] rfl ?_
   exact hK16 _ _ _ ⟨(l2 e31 e35), rfl, rfl⟩
  replace h := ite_f c18 h
  obtain rfl := Option.some.inj h
  refine G.drawN 11 mixed (by kernel_rfl) ?_
  refine tn 0 rfl hQ (fun _ _ _ => Y.move rfl) ?_
  refine tn 1 rfl hQ (fun _ _ _ => Y.ltI rfl rfl) ?_
  refine tn 2 rfl hQ (fun _ _ _ => Y.move rfl) ?_
  refine tf 3 rfl .refl hQ (gn 8 c18) ?_
  refine tf 4 rfl .refl hQ (gn 8 c18) ?_
  refine tf 5 rfl .refl hQ (gn 8 c18) ?_
  refine tf 6 rfl .refl hQ (gn 8 c18) ?_
  refine tf 7 rfl .refl hQ (gn 8 c18) ?_
  refine tf 8 rfl .refl hQ (gn 8 c18) ?_
  refine tf 9 rfl .refl hQ (gn 8 c18) ?_
  refine tn 10 rfl hQ (fun _ _ _ => Y.pickF _ c18 rfl rfl) ?_
  refine dn ?_
  refine GX.keep [16, 5, 3, 2] rfl ?_
  exact hK16 _ _ _ ⟨l0, rfl, rfl⟩
 rintro _ S37 _ ⟨e38, rfl, rfl⟩
 refine GX.then hK15 ?_
 refine G.cond _ rfl (fun c39 => ?_) (fun c39 => ?_)
 ·replace h := ite_t c39 h
  refine sk hK14 ?_
  refine G.block ?_
  refine G.region ?_
  refine mv ?_
  refine vl (Y.addI rfl rfl) ?_
  refine an ?_
  refine GO.nil ?_
  refine GX.normal_block ?_
  obtain rfl := Option.some.inj h
  refine GX.keep [5, 3, 2] rfl ?_
  exact hK1 _ _ _ _ rfl ⟨(l2 e9 e38), rfl, rfl⟩
 replace h := ite_f c39 h
 refine G.exit ?_
 refine GX.exit_then ?_
 obtain rfl := Option.some.inj h
 refine GX.keep [5] rfl ?_
 exact hx11 _ _ _ ⟨_, (l2 e9 e38), (hf1 _ rfl).symm, rfl, rfl⟩

/- chirograph/chirographref01.Order -/
def r01_Order  (a0 : Lab) (a1 : Lab) : Option Int :=
 ((r01_Common a0 a1).bind fun t7 => (if (t7 == (256 : Int)) = true then some (0 : Int) else ((r01_Bit a0 t7).bind fun t17 => some (wrap64 ((wrap64 ((2 : Int) * t17)) - (1 : Int))))))

theorem r01_Order_ok {S : Hp} (a0 : Lab) (a1 : Lab) {r : Int} (h : r01_Order a0 a1 = some r) : Fn Tryz.prog 62 [aggV [sL a0], aggV [sL a1]] S (fun v S' => v = .int .i64 r) := by
 unfold r01_Order at h
 refine fo [.tmp 4] 16 Tryz.func62 Tryz.ntmps62 (fun o F Q hQ hN hret => ?_)
 refine sr (fun _ hK1 => ?_)
 refine st (OS.boxA (by decide) rfl (fun ad2 => ?_))
 refine st (OS.boxA (by decide) rfl (fun ad4 => ?_))
 refine an ?_
 refine nt hK1 ?_
 refine sr (fun _ hK6 => ?_)
 refine lb 1 0 1 [sL a0] row23 ?_
 refine lb 0 0 1 [sL a1] row23 ?_
 obtain ⟨t7, wt7, h⟩ := bind_some' h
 refine st (cl fb135 (r01_Common_ok a0 a1 wt7) (fun v8 S9 e10 z11 => ?_))
 obtain rfl := z11
 refine an ?_
 refine nt hK6 ?_
 refine G.seq (fun _ hK12 => ?_)
 refine sr (fun _ hK13 => ?_)
 refine mv ?_
 refine vl (Y.eqI rfl rfl) ?_
 refine nt hK13 ?_
 refine G.cond _ rfl (fun c14 => ?_) (fun c14 => ?_)
 ·replace h := ite_t c14 h
  refine sr (fun _ hK15 => ?_)
  refine an ?_
  refine nt hK15 ?_
  refine G.ret ?_
  obtain rfl := Option.some.inj h
  exact hret _ _ _ _ 2 e10 (.cons (.tmp rfl) .nil) rfl rfl
 replace h := ite_f c14 h
 refine sk hK12 ?_
 refine sr (fun _ hK16 => ?_)
 refine lb 1 0 1 [sL a0] row23 ?_
 refine mv ?_
 obtain ⟨t17, wt17, h⟩ := bind_some' h
 refine st (cl fb63 (r01_Bit_ok a0 t7 wt17) (fun v18 S19 e20 z21 => ?_))
 obtain rfl := z21
 refine vl (Y.mulI rfl rfl) ?_
 refine vl (Y.subI rfl rfl) ?_
 refine an ?_
 refine nt hK16 ?_
 refine G.ret ?_
 obtain rfl := Option.some.inj h
 exact hret _ _ _ _ 2 (l2 e10 e20) (.cons (.tmp rfl) .nil) rfl rfl

/- chirograph/chirographref01.Set -/
def r01_Set_s1  : (Int × UInt8) → Option ((Int × UInt8) ⊕ (Int × UInt8))
 | (x11, x12) => (if (decide (x11 < (7 : Int))) = true then some (.inl ((wrap64 (x11 + (1 : Int))), (2 * x12))) else some (.inr (x11, x12)))

def r01_Set  (a0 : Lab) (a1 : Int) : Option Lab :=
 ((iter (r01_Set_s1) ((Int.tmod a1 (8 : Int)), 1)).bind fun b14 => (match b14 with | (x11, x12) => ((r01_Bit a0 a1).bind fun t24 => (if (t24 == (0 : Int)) = true then ((req ((0 : Int) ≤ (wrap64 (Int.tdiv a1 (8 : Int))) ∧ (wrap64 (Int.tdiv a1 (8 : Int))) < (32 : Nat))).bind fun _ => ((req ((0 : Int) ≤ (wrap64 (Int.tdiv a1 (8 : Int))) ∧ (wrap64 (Int.tdiv a1 (8 : Int))) < (32 : Nat))).bind fun _ => some (setV a0 (wrap64 (Int.tdiv a1 (8 : Int))) ((getV a0 (wrap64 (Int.tdiv a1 (8 : Int)))) + x12)))) else some a0))))

theorem r01_Set_ok {S : Hp} (a0 : Lab) (a1 : Int) {r : Lab} (h : r01_Set a0 a1 = some r) : Fn Tryz.prog 186 [aggV [sL a0], .int .i64 a1] S (fun v S' => v = aggV [sL r]) := by
 unfold r01_Set at h
 refine fo [.cell 4 23] 27 Tryz.func186 Tryz.ntmps186 (fun o F Q hQ hN hret => ?_)
 refine sr (fun _ hK1 => ?_)
 refine st (OS.boxA (by decide) rfl (fun ad2 => ?_))
 refine st (OS.alloc _ (by decide) zero23 (fun ad4 => ?_))
 refine nt hK1 ?_
 refine sr (fun _ hK6 => ?_)
 refine an ?_
 refine nt hK6 ?_
 refine G.seq (fun _ hK7 => ?_)
 refine sr (fun _ hK8 => ?_)
 refine mv ?_
 refine vl (Y.remI rfl rfl (by decide)) ?_
 refine an ?_
 refine nt hK8 ?_
 refine G.block ?_
 obtain ⟨b14, wb14, ho15⟩ := bind_some' h
 refine G.keep [6, 5, 4, 2, 1] rfl ?_
 refine G.loopK (r01_Set_s1) (fun s₀ E' S' L' => match s₀ with | (x11, x12) => S.le S' ∧ E' = [(6, .int .i64 x11), (5, u8V x12), (4, .pointer (some ⟨ad4, 0, none⟩)), (2, .pointer (some ⟨ad2, 0, none⟩)), (1, .int .i64 a1)] ∧ Blk ad4 [sL zL] :: Blk ad2 [sL a0] :: F = L') b14 0 (fun E₀ S₀ L₀ => ∃ (x11 : Int) (x12 : UInt8), S.le S₀ ∧ b14 = (x11, x12) ∧ E₀ = [(5, u8V x12), (4, .pointer (some ⟨ad4, 0, none⟩)), (2, .pointer (some ⟨ad2, 0, none⟩)), (1, .int .i64 a1)] ∧ Blk ad4 [sL zL] :: Blk ad2 [sL a0] :: F = L₀) wb14 ?_ ?_ ?_
 ·rintro _ S20 _ ⟨x11, x12, e21, rfl, rfl, rfl⟩
  have h := ho15; clear ho15
  try dsimp only at h
  refine GX.exit_block ?_
  refine GX.then hK7 ?_
  refine G.seq (fun _ hK22 => ?_)
  refine sr (fun _ hK23 => ?_)
  refine lb 1 0 1 [sL a0] row23 ?_
  refine mv ?_
  obtain ⟨t24, wt24, h⟩ := bind_some' h
  refine st (cl fb63 (r01_Bit_ok a0 a1 wt24) (fun v25 S26 e27 z28 => ?_))
  obtain rfl := z28
  refine vl (Y.eqI rfl rfl) ?_
  refine nt hK23 ?_
  refine G.cond _ rfl (fun c29 => ?_) (fun c29 => ?_)
  ·replace h := ite_t c29 h
   refine G.region ?_
   refine mv ?_
   refine vl (Y.quoI rfl rfl (by decide)) ?_
   obtain ⟨g30, h⟩ := req_bind h
   refine vl (Y.idxA rfl rfl arr23 g30) ?_
   refine vl (Y.loadE 1  0 _ _ rfl rfl rfl rfl (at_sL _ _ g30) one5) ?_
   refine mv ?_
   refine vl (Y.add_u8 (a := (getV a0 (wrap64 (Int.tdiv a1 (8 : Int))))) (b := x12) rfl rfl) ?_
   obtain ⟨g31, h⟩ := req_bind h
   refine vl (Y.idxA rfl rfl arr23 g31) ?_
   refine st (OS.storeE 1 0 (sL (setV a0 (wrap64 (Int.tdiv a1 (8 : Int))) ((getV a0 (wrap64 (Int.tdiv a1 (8 : Int)))) + x12))) [sL (setV a0 (wrap64 (Int.tdiv a1 (8 : Int))) ((getV a0 (wrap64 (Int.tdiv a1 (8 : Int)))) + x12))] _ rfl rfl rfl rfl rfl rfl (lt_of_bnd g31) (set_sL _ _ _) rfl size5 ?_)
   refine nt hK22 ?_
   refine sr (fun _ hK32 => ?_)
   refine lb 1 0 1 [sL (setV a0 (wrap64 (Int.tdiv a1 (8 : Int))) ((getV a0 (wrap64 (Int.tdiv a1 (8 : Int)))) + x12))] row23 ?_
   refine sf 0 1 [sL (setV a0 (wrap64 (Int.tdiv a1 (8 : Int))) ((getV a0 (wrap64 (Int.tdiv a1 (8 : Int)))) + x12))] (aggV_cells _) (oL oN) size23 ?_
   refine nt hK32 ?_
   refine G.ret ?_
   obtain rfl := Option.some.inj h
   exact hret _ _ _ _ 2 (l2 e21 e27) (.cons (.row (k := 0) rfl rfl row23 (by kernel_rfl)) .nil) rfl rfl
  replace h := ite_f c29 h
  refine sk hK22 ?_
  refine sr (fun _ hK33 => ?_)
  refine lb 1 0 1 [sL a0] row23 ?_
  refine sf 0 1 [sL a0] (aggV_cells _) (oL oN) size23 ?_
  refine nt hK33 ?_
  refine G.ret ?_
  obtain rfl := Option.some.inj h
  exact hret _ _ _ _ 2 (l2 e21 e27) (.cons (.row (k := 0) rfl rfl row23 (by kernel_rfl)) .nil) rfl rfl
 ·exact ⟨Hp.le_refl _, rfl, rfl⟩
 rintro ⟨x11, x12⟩ _ S9 _ ⟨e10, rfl, rfl⟩ out1 h hf1 K1 hK1 hx13
 rw [r01_Set_s1] at h
 refine G.seq (fun _ hK16 => ?_)
 refine sr (fun _ hK17 => ?_)
 refine mv ?_
 refine vl (Y.ltI rfl rfl) ?_
 refine nt hK17 ?_
 refine G.cond _ rfl (fun c18 => ?_) (fun c18 => ?_)
 ·replace h := ite_t c18 h
  refine sk hK16 ?_
  refine G.seq (fun _ hK19 => ?_)
  refine G.block ?_
  refine G.region ?_
  refine mv ?_
  refine vl (Y.mul_u8 (a := 2) (b := x12) rfl rfl) ?_
  refine an ?_
  refine GO.nil ?_
  refine GX.normal_block ?_
  refine GX.then hK19 ?_
  refine G.region ?_
  refine mv ?_
  refine vl (Y.addI rfl rfl) ?_
  refine an ?_
  refine GO.nil ?_
  obtain rfl := Option.some.inj h
  refine GX.keep [6, 5, 4, 2, 1] rfl ?_
  exact hK1 _ _ _ _ rfl ⟨e10, rfl, rfl⟩
 replace h := ite_f c18 h
 refine G.exit ?_
 refine GX.exit_then ?_
 obtain rfl := Option.some.inj h
 refine GX.keep [5, 4, 2, 1] rfl ?_
 exact hx13 _ _ _ ⟨_, _, e10, (hf1 _ rfl).symm, rfl, rfl⟩

/- chirograph/chirographref01.Cut -/
def r01_Cut_s1 (a0 : Lab) (a1 : Int) : (Int × Lab) → Option ((Int × Lab) ⊕ (Int × Lab))
 | (x13, x14) => ((if (decide (x13 < a1)) = true then some (decide (x13 < (256 : Int))) else some false).bind fun b20 => (if b20 = true then ((r01_Bit a0 x13).bind fun t28 => (if (t28 == (1 : Int)) = true then ((r01_Set x14 x13).bind fun t34 => some (.inl ((wrap64 (x13 + (1 : Int))), t34))) else some (.inl ((wrap64 (x13 + (1 : Int))), x14)))) else some (.inr (x13, x14))))

def r01_Cut  (a0 : Lab) (a1 : Int) : Option Lab :=
 ((iter (r01_Cut_s1 a0 a1) ((0 : Int), zL)).bind fun b16 => (match b16 with | (x13, x14) => some x14))

theorem r01_Cut_ok {S : Hp} (a0 : Lab) (a1 : Int) {r : Lab} (h : r01_Cut a0 a1 = some r) : Fn Tryz.prog 137 [aggV [sL a0], .int .i64 a1] S (fun v S' => v = aggV [sL r]) := by
 unfold r01_Cut at h
 refine fo [.cell 4 23] 25 Tryz.func137 Tryz.ntmps137 (fun o F Q hQ hN hret => ?_)
 refine sr (fun _ hK1 => ?_)
 refine st (OS.boxA (by decide) rfl (fun ad2 => ?_))
 refine st (OS.alloc _ (by decide) zero23 (fun ad4 => ?_))
 refine nt hK1 ?_
 refine sr (fun _ hK6 => ?_)
 refine vl (Y.buildA [] [sL zL] arr23 zero23 rfl (by kernel_rfl) (by kernel_rfl)) ?_
 refine st (OS.alloc _ (by decide) zero23 (fun ad7 => ?_))
 refine sf 0 1 [sL zL] (aggV_cells _) (oL oN) size23 ?_
 refine nt hK6 ?_
 refine G.seq (fun _ hK9 => ?_)
 refine sr (fun _ hK10 => ?_)
 refine an ?_
 refine nt hK10 ?_
 refine G.block ?_
 obtain ⟨b16, wb16, ho17⟩ := bind_some' h
 refine G.keep [6, 5, 4, 2, 1] rfl ?_
 refine G.loopK (r01_Cut_s1 a0 a1) (fun s₀ E' S' L' => match s₀ with | (x13, x14) => S.le S' ∧ E' = [(6, .int .i64 x13), (5, .pointer (some ⟨ad7, 0, none⟩)), (4, .pointer (some ⟨ad4, 0, none⟩)), (2, .pointer (some ⟨ad2, 0, none⟩)), (1, .int .i64 a1)] ∧ Blk ad7 [sL x14] :: Blk ad4 [sL zL] :: Blk ad2 [sL a0] :: F = L') b16 0 (fun E₀ S₀ L₀ => ∃ (x13 : Int) (x14 : Lab), S.le S₀ ∧ b16 = (x13, x14) ∧ E₀ = [(5, .pointer (some ⟨ad7, 0, none⟩)), (4, .pointer (some ⟨ad4, 0, none⟩))] ∧ Blk ad7 [sL x14] :: Blk ad4 [sL zL] :: Blk ad2 [sL a0] :: F = L₀) wb16 ?_ ?_ ?_
 ·rintro _ S39 _ ⟨x13, x14, e40, rfl, rfl, rfl⟩
  have h := ho17; clear ho17
  try dsimp only at h
  refine GX.exit_block ?_
  refine GX.then hK9 ?_
  refine sr (fun _ hK41 => ?_)
  refine lb 0 0 1 [sL x14] row23 ?_
  refine sf 1 1 [sL x14] (aggV_cells _) (oL oN) size23 ?_
  refine nt hK41 ?_
  refine G.ret ?_
  obtain rfl := Option.some.inj h
  exact hret _ _ _ _ 3 e40 (.cons (.row (k := 1) rfl rfl row23 (by kernel_rfl)) .nil) rfl rfl
 ·exact ⟨Hp.le_refl _, rfl, rfl⟩
 rintro ⟨x13, x14⟩ _ S11 _ ⟨e12, rfl, rfl⟩ out1 h hf1 K1 hK1 hx15
 rw [r01_Cut_s1] at h
 refine G.seq (fun _ hK18 => ?_)
 refine sr (fun _ hK19 => ?_)
 refine mv ?_
 refine mv ?_
 refine vl (Y.ltI rfl rfl) ?_
 refine mv ?_
 obtain ⟨b20, wb20, h⟩ := bind_some' h
 refine GO.joinB 3 14 (b20 = ·) (fun K22 hK22 => ?_) ?_
 ·replace h := wb20
  rcases Bool.eq_false_or_eq_true (decide (x13 < a1)) with c21 | c21
  ·replace h := ite_t c21 h
   refine gv 11 c21 (Y.move rfl) ?_
   refine gv 11 c21 (Y.ltI rfl rfl) ?_
   refine vl (Y.pickT _ c21 rfl rfl) ?_
   refine GO.nil ?_
   refine p2 (p2 ?_)
   exact hK22 _ _ l0 (Option.some.inj h).symm
  replace h := ite_f c21 h
  refine gf 11 c21 ?_
  refine gf 11 c21 ?_
  refine vl (Y.pickF _ c21 rfl rfl) ?_
  refine GO.nil ?_
  refine p2 (p2 ?_)
  exact hK22 _ _ l0 (Option.some.inj h).symm
 rintro _ S23 e24 rfl
 refine nt hK19 ?_
 refine G.cond _ rfl (fun c25 => ?_) (fun c25 => ?_)
 ·replace h := ite_t c25 h
  refine sk hK18 ?_
  refine G.seq (fun _ hK26 => ?_)
  refine G.block ?_
  refine sr (fun _ hK27 => ?_)
  refine lb 2 0 1 [sL a0] row23 ?_
  refine mv ?_
  obtain ⟨t28, wt28, h⟩ := bind_some' h
  refine st (cl fb63 (r01_Bit_ok a0 x13 wt28) (fun v29 S30 e31 z32 => ?_))
  obtain rfl := z32
  refine vl (Y.eqI rfl rfl) ?_
  refine nt hK27 ?_
  refine G.cond _ rfl (fun c33 => ?_) (fun c33 => ?_)
  ·replace h := ite_t c33 h
   refine G.region ?_
   refine lb 0 0 1 [sL x14] row23 ?_
   refine mv ?_
   obtain ⟨t34, wt34, h⟩ := bind_some' h
   refine st (cl fb186 (r01_Set_ok x14 x13 wt34) (fun v35 S36 e37 z38 => ?_))
   obtain rfl := z38
   refine sf 0 1 [sL t34] (aggV_cells _) (oL oN) size23 ?_
   refine GO.nil ?_
   refine GX.normal_block ?_
   refine GX.then hK26 ?_
   refine G.region ?_
   refine mv ?_
   refine vl (Y.addI rfl rfl) ?_
   refine an ?_
   refine GO.nil ?_
   obtain rfl := Option.some.inj h
   refine GX.keep [6, 5, 4, 2, 1] rfl ?_
   exact hK1 _ _ _ _ rfl ⟨(l2 e12 (l2 e24 (l2 e31 e37))), rfl, rfl⟩
  replace h := ite_f c33 h
  refine G.skip ?_
  refine GX.normal_block ?_
  refine GX.then hK26 ?_
  refine G.region ?_
  refine mv ?_
  refine vl (Y.addI rfl rfl) ?_
  refine an ?_
  refine GO.nil ?_
  obtain rfl := Option.some.inj h
  refine GX.keep [6, 5, 4, 2, 1] rfl ?_
  exact hK1 _ _ _ _ rfl ⟨(l2 e12 (l2 e24 e31)), rfl, rfl⟩
 replace h := ite_f c25 h
 refine G.exit ?_
 refine GX.exit_then ?_
 obtain rfl := Option.some.inj h
 refine GX.keep [5, 4] rfl ?_
 exact hx15 _ _ _ ⟨_, _, (l2 e12 e24), (hf1 _ rfl).symm, rfl, rfl⟩

/- chirograph/chirographref01.Good -/
def r01_Good  (a0 : Int) (a1 : Lab) : Option Bool :=
 ((if (decide ((0 : Int) ≤ a0)) = true then (if (decide (a0 ≤ (256 : Int))) = true then ((r01_Cut a1 a0).bind fun t9 => some (t9 == a1)) else some false) else some false).bind fun b6 => some b6)

theorem r01_Good_ok {S : Hp} (a0 : Int) (a1 : Lab) {r : Bool} (h : r01_Good a0 a1 = some r) : Fn Tryz.prog 174 [.int .i64 a0, aggV [sL a1]] S (fun v S' => v = .bool r) := by
 unfold r01_Good at h
 refine fo [.tmp 4] 18 Tryz.func174 Tryz.ntmps174 (fun o F Q hQ hN hret => ?_)
 refine sr (fun _ hK1 => ?_)
 refine st (OS.boxA (by decide) rfl (fun ad2 => ?_))
 refine an ?_
 refine nt hK1 ?_
 refine G.seq (fun _ hK4 => ?_)
 obtain ⟨b6, wb6, h⟩ := bind_some' h
 refine G.cut (fun E₀ S₀ L₀ => S.le S₀ ∧ E₀ = [(4, .bool b6)] ∧ Blk ad2 [sL a1] :: F = L₀) (fun K5 hK5 => ?_) ?_
 ·replace h := wb6
  rcases Bool.eq_false_or_eq_true (decide ((0 : Int) ≤ a0)) with c7 | c7
  ·replace h := ite_t c7 h
   rcases Bool.eq_false_or_eq_true (decide (a0 ≤ (256 : Int))) with c8 | c8
   ·replace h := ite_t c8 h
    obtain ⟨t9, wt9, h⟩ := bind_some' h
    obtain rfl := Option.some.inj h
    refine G.drawN 14 mixed (by kernel_rfl) ?_
    refine tn 0 rfl hQ (fun _ _ _ => Y.move rfl) ?_
    refine tn 1 rfl hQ (fun _ _ _ => Y.geI rfl rfl) ?_
    refine tn 2 rfl hQ (fun _ _ _ => Y.move rfl) ?_
    refine tw 3 rfl .refl hQ (gi 7 c7) (fun _ _ _ => Y.move rfl) ?_
    refine tw 4 rfl .refl hQ (gi 7 c7) (fun _ _ _ => Y.leI rfl rfl) ?_
    refine tn 5 rfl hQ (fun _ _ _ => Y.pickT _ c7 rfl rfl) ?_
    refine tn 6 rfl hQ (fun _ _ _ => Y.move rfl) ?_
    refine tw 7 rfl .refl hQ (gi 11 c8) (fun S₀ X₀ e₀ => Y.loadB (X₀.length + 0)  0 1 [sL a1] rfl (Lk rfl) rfl rfl row23 (by kernel_rfl)) ?_
    refine tw 8 rfl .refl hQ (gi 11 c8) (fun _ _ _ => Y.move rfl) ?_
    refine tw 10 rfl .refl hQ (gi 11 c8) (fun S₀ X₀ e₀ => Y.loadB (X₀.length + 0)  0 1 [sL a1] rfl (Lk rfl) rfl rfl row23 (by kernel_rfl)) ?_
    refine g1 9 ?_
    refine GD1.on rfl (gi 11 c8) (by kernel_rfl) (cl fb137 (r01_Cut_ok a1 a0 wt9) (fun v14 S15 e16 z17 => ⟨⟨[], .refl, e16⟩, ?_⟩))
    obtain rfl := z17
    refine tw 11 rfl .refl hQ (gi 11 c8) (fun _ _ _ => Y.eqA rfl rfl eqt23 (by decide) (EqV.lab _ _ Tryz.underlying23 one5 Tryz.underlying5)) ?_
    refine tn 12 rfl hQ (fun _ _ _ => Y.pickT _ c8 rfl rfl) ?_
    refine tn 13 rfl hQ (fun _ _ _ => Y.assign rfl) ?_
    refine dn ?_
    refine GX.keep [4] rfl ?_
    exact hK5 _ _ _ ⟨e16, rfl, rfl⟩
   replace h := ite_f c8 h
   obtain rfl := Option.some.inj h
   refine G.drawN 14 mixed (by kernel_rfl) ?_
   refine tn 0 rfl hQ (fun _ _ _ => Y.move rfl) ?_
   refine tn 1 rfl hQ (fun _ _ _ => Y.geI rfl rfl) ?_
   refine tn 2 rfl hQ (fun _ _ _ => Y.move rfl) ?_
   refine tw 3 rfl .refl hQ (gi 7 c7) (fun _ _ _ => Y.move rfl) ?_
   refine tw 4 rfl .refl hQ (gi 7 c7) (fun _ _ _ => Y.leI rfl rfl) ?_
   refine tn 5 rfl hQ (fun _ _ _ => Y.pickT _ c7 rfl rfl) ?_
   refine tn 6 rfl hQ (fun _ _ _ => Y.move rfl) ?_
   refine tf 7 rfl .refl hQ (gn 11 c8) ?_
   refine tf 8 rfl .refl hQ (gn 11 c8) ?_
   refine tf 9 rfl .refl hQ (gn 11 c8) ?_
   refine tf 10 rfl .refl hQ (gn 11 c8) ?_
   refine tf 11 rfl .refl hQ (gn 11 c8) ?_
   refine tn 12 rfl hQ (fun _ _ _ => Y.pickF _ c8 rfl rfl) ?_
   refine tn 13 rfl hQ (fun _ _ _ => Y.assign rfl) ?_
   refine dn ?_
   refine GX.keep [4] rfl ?_
   exact hK5 _ _ _ ⟨l0, rfl, rfl⟩
  replace h := ite_f c7 h
  obtain rfl := Option.some.inj h
  refine G.drawN 14 mixed (by kernel_rfl) ?_
  refine tn 0 rfl hQ (fun _ _ _ => Y.move rfl) ?_
  refine tn 1 rfl hQ (fun _ _ _ => Y.geI rfl rfl) ?_
  refine tn 2 rfl hQ (fun _ _ _ => Y.move rfl) ?_
  refine tf 3 rfl .refl hQ (gn 7 c7) ?_
  refine tf 4 rfl .refl hQ (gn 7 c7) ?_
  refine tn 5 rfl hQ (fun _ _ _ => Y.pickF _ c7 rfl rfl) ?_
  refine tn 6 rfl hQ (fun _ _ _ => Y.move rfl) ?_
  refine tf 7 rfl .refl hQ (gn 11 rfl) ?_
  refine tf 8 rfl .refl hQ (gn 11 rfl) ?_
  refine tf 9 rfl .refl hQ (gn 11 rfl) ?_
  refine tf 10 rfl .refl hQ (gn 11 rfl) ?_
  refine tf 11 rfl .refl hQ (gn 11 rfl) ?_
  refine tn 12 rfl hQ (fun _ _ _ => Y.pickF _ rfl rfl rfl) ?_
  refine tn 13 rfl hQ (fun _ _ _ => Y.assign rfl) ?_
  refine dn ?_
  refine GX.keep [4] rfl ?_
  exact hK5 _ _ _ ⟨l0, rfl, rfl⟩
 rintro _ S18 _ ⟨e19, rfl, rfl⟩
 refine GX.then hK4 ?_
 refine G.ret ?_
 obtain rfl := Option.some.inj h
 exact hret _ _ _ _ 1 e19 (.cons (.tmp rfl) .nil) rfl rfl

end
end Go.Ch
end
section
/- Functions of the program: what each comes to, proved. -/
set_option linter.unusedVariables false
set_option linter.unusedSimpArgs false
set_option maxRecDepth 100000
set_option maxHeartbeats 4000000
namespace Go.Ch
open Go.RowKit (wrap64)
open Go.Proofs
noncomputable section
/- chirograph/chirographref02.Take -/
def r02_Take  (a0 : Rd) (a1 : Int) : Option (Rd × Str) :=
 ((if (a0.err == (0 : Int)) = true then some (decide ((wrap64 ((lenI a0.s) - a0.at_)) < a1)) else some false).bind fun b8 => (if b8 = true then (if ((5 : Int) != (0 : Int)) = true then some ((⟨a0.s, a0.at_, (5 : Int)⟩ : Rd), ([] : Str)) else ((req ((0 : Int) ≤ a0.at_ ∧ a0.at_ ≤ (wrap64 (a0.at_ + a1)) ∧ (wrap64 (a0.at_ + a1)) ≤ lenI a0.s)).bind fun _ => some ((⟨a0.s, (wrap64 (a0.at_ + a1)), (5 : Int)⟩ : Rd), (cutL a0.s a0.at_ (wrap64 (a0.at_ + a1)))))) else (if (a0.err != (0 : Int)) = true then some (a0, ([] : Str)) else ((req ((0 : Int) ≤ a0.at_ ∧ a0.at_ ≤ (wrap64 (a0.at_ + a1)) ∧ (wrap64 (a0.at_ + a1)) ≤ lenI a0.s)).bind fun _ => some ((⟨a0.s, (wrap64 (a0.at_ + a1)), a0.err⟩ : Rd), (cutL a0.s a0.at_ (wrap64 (a0.at_ + a1))))))))

theorem r02_Take_ok {S : Hp} (a0 : Rd) (a1 : Int) {r : Rd × Str} (h : r02_Take a0 a1 = some r) : Fn Tryz.prog 169 [aggV [sV (strV a0.s), sV (.int .i64 a0.at_), sV (.int .i64 a0.err)], .int .i64 a1] S (fun v S' => v = .tuple #[aggV [sV (strV r.1.s), sV (.int .i64 r.1.at_), sV (.int .i64 r.1.err)], strV r.2]) := by
 unfold r02_Take at h
 refine fo [.cell 4 155, .tmp 5] 41 Tryz.func169 Tryz.ntmps169 (fun o F Q hQ hN hret => ?_)
 refine sr (fun _ hK1 => ?_)
 refine st (OS.boxA (by decide) rfl (fun ad2 => ?_))
 refine st (OS.alloc _ (by decide) zero155 (fun ad4 => ?_))
 refine an ?_
 refine nt hK1 ?_
 refine G.seq (fun _ hK6 => ?_)
 refine sr (fun _ hK7 => ?_)
 refine vl (Y.fieldAddr 2 rfl fld155_2 rfl) ?_
 refine lv 1 2 one3 ?_
 refine vl (Y.eqI rfl rfl) ?_
 refine mv ?_
 obtain ⟨b8, wb8, h⟩ := bind_some' h
 refine GO.joinB 9 19 (b8 = ·) (fun K10 hK10 => ?_) ?_
 ·replace h := wb8
  rcases Bool.eq_false_or_eq_true (a0.err == (0 : Int)) with c9 | c9
  ·replace h := ite_t c9 h
   refine gv 10 c9 (Y.move rfl) ?_
   refine gv 10 c9 (Y.fieldAddr 0 rfl fld155_0 rfl) ?_
   refine gv 10 c9 (Y.loadV 1  0 _ rfl rfl rfl rfl one9) ?_
   refine gv 10 c9 (Y.lenStr (v := a0.s) rfl sty9) ?_
   refine gv 10 c9 (Y.fieldAddr 1 rfl fld155_1 rfl) ?_
   refine gv 10 c9 (Y.loadV 1  1 _ rfl rfl rfl rfl one3) ?_
   refine gv 10 c9 (Y.subI rfl rfl) ?_
   refine gv 10 c9 (Y.gtI rfl rfl) ?_
   refine vl (Y.pickT _ c9 rfl rfl) ?_
   refine GO.nil ?_
   refine p2 (p2 (p2 (p2 (p2 (p2 (p2 (p2 ?_)))))))
   exact hK10 _ _ l0 (Option.some.inj h).symm
  replace h := ite_f c9 h
  refine gf 10 c9 ?_
  refine gf 10 c9 ?_
  refine gf 10 c9 ?_
  refine gf 10 c9 ?_
  refine gf 10 c9 ?_
  refine gf 10 c9 ?_
  refine gf 10 c9 ?_
  refine gf 10 c9 ?_
  refine vl (Y.pickF _ c9 rfl rfl) ?_
  refine GO.nil ?_
  refine p2 (p2 (p2 (p2 (p2 (p2 (p2 (p2 ?_)))))))
  exact hK10 _ _ l0 (Option.some.inj h).symm
 rintro _ S11 e12 rfl
 refine nt hK7 ?_
 refine G.cond _ rfl (fun c13 => ?_) (fun c13 => ?_)
 ·replace h := ite_t c13 h
  refine G.region ?_
  refine vl (Y.fieldAddr 2 rfl fld155_2 rfl) ?_
  refine so 1 2 1 [sV (strV a0.s), sV (.int .i64 a0.at_), sV (.int .i64 (5 : Int))] (r := [sV (.int .i64 (5 : Int))]) rfl (oI oN) size3 ?_
  refine nt hK6 ?_
  refine G.seq (fun _ hK14 => ?_)
  refine sr (fun _ hK15 => ?_)
  refine vl (Y.fieldAddr 2 rfl fld155_2 rfl) ?_
  refine lv 1 2 one3 ?_
  refine vl (Y.neI rfl rfl) ?_
  refine nt hK15 ?_
  refine G.cond _ rfl (fun c16 => ?_) (fun c16 => ?_)
  ·replace h := ite_t c16 h
   refine sr (fun _ hK17 => ?_)
   refine lb 1 0 3 [sV (strV a0.s), sV (.int .i64 a0.at_), sV (.int .i64 (5 : Int))] row155 ?_
   refine sf 0 3 [sV (strV a0.s), sV (.int .i64 a0.at_), sV (.int .i64 (5 : Int))] (aggV_cells _) (oI (oI (oI oN))) size155 ?_
   refine an ?_
   refine nt hK17 ?_
   refine G.ret ?_
   obtain rfl := Option.some.inj h
   exact hret _ _ _ _ 2 e12 (.cons (.row (k := 0) rfl rfl row155 (by kernel_rfl)) (.cons (.tmp rfl) .nil)) rfl rfl
  replace h := ite_f c16 h
  refine sk hK14 ?_
  refine sr (fun _ hK18 => ?_)
  refine vl (Y.fieldAddr 0 rfl fld155_0 rfl) ?_
  refine lv 1 0 one9 ?_
  refine vl (Y.fieldAddr 1 rfl fld155_1 rfl) ?_
  refine lv 1 1 one3 ?_
  refine vl (Y.fieldAddr 1 rfl fld155_1 rfl) ?_
  refine lv 1 1 one3 ?_
  refine mv ?_
  refine vl (Y.addI rfl rfl) ?_
  obtain ⟨g19, h⟩ := req_bind h
  refine vl (Y.sliceStr (a := a0.s) a0.at_ (wrap64 (a0.at_ + a1)) (some (.int .i64 a0.at_)) (some (.int .i64 (wrap64 (a0.at_ + a1)))) rfl sty9 rfl rfl (.inr ⟨_, rfl⟩) (.inr ⟨_, rfl⟩) g19) ?_
  refine an ?_
  refine nt hK18 ?_
  refine sr (fun _ hK20 => ?_)
  refine vl (Y.fieldAddr 1 rfl fld155_1 rfl) ?_
  refine lv 1 1 one3 ?_
  refine mv ?_
  refine vl (Y.addI rfl rfl) ?_
  refine vl (Y.fieldAddr 1 rfl fld155_1 rfl) ?_
  refine so 1 1 1 [sV (strV a0.s), sV (.int .i64 (wrap64 (a0.at_ + a1))), sV (.int .i64 (5 : Int))] (r := [sV (.int .i64 (wrap64 (a0.at_ + a1)))]) rfl (oI oN) size3 ?_
  refine nt hK20 ?_
  refine sr (fun _ hK21 => ?_)
  refine lb 1 0 3 [sV (strV a0.s), sV (.int .i64 (wrap64 (a0.at_ + a1))), sV (.int .i64 (5 : Int))] row155 ?_
  refine mv ?_
  refine sf 0 3 [sV (strV a0.s), sV (.int .i64 (wrap64 (a0.at_ + a1))), sV (.int .i64 (5 : Int))] (aggV_cells _) (oI (oI (oI oN))) size155 ?_
  refine an ?_
  refine nt hK21 ?_
  refine G.ret ?_
  obtain rfl := Option.some.inj h
  exact hret _ _ _ _ 2 e12 (.cons (.row (k := 0) rfl rfl row155 (by kernel_rfl)) (.cons (.tmp rfl) .nil)) rfl rfl
 replace h := ite_f c13 h
 refine sk hK6 ?_
 refine G.seq (fun _ hK22 => ?_)
 refine sr (fun _ hK23 => ?_)
 refine vl (Y.fieldAddr 2 rfl fld155_2 rfl) ?_
 refine lv 1 2 one3 ?_
 refine vl (Y.neI rfl rfl) ?_
 refine nt hK23 ?_
 refine G.cond _ rfl (fun c24 => ?_) (fun c24 => ?_)
 ·replace h := ite_t c24 h
  refine sr (fun _ hK25 => ?_)
  refine lb 1 0 3 [sV (strV a0.s), sV (.int .i64 a0.at_), sV (.int .i64 a0.err)] row155 ?_
  refine sf 0 3 [sV (strV a0.s), sV (.int .i64 a0.at_), sV (.int .i64 a0.err)] (aggV_cells _) (oI (oI (oI oN))) size155 ?_
  refine an ?_
  refine nt hK25 ?_
  refine G.ret ?_
  obtain rfl := Option.some.inj h
  exact hret _ _ _ _ 2 e12 (.cons (.row (k := 0) rfl rfl row155 (by kernel_rfl)) (.cons (.tmp rfl) .nil)) rfl rfl
 replace h := ite_f c24 h
 refine sk hK22 ?_
 refine sr (fun _ hK26 => ?_)
 refine vl (Y.fieldAddr 0 rfl fld155_0 rfl) ?_
 refine lv 1 0 one9 ?_
 refine vl (Y.fieldAddr 1 rfl fld155_1 rfl) ?_
 refine lv 1 1 one3 ?_
 refine vl (Y.fieldAddr 1 rfl fld155_1 rfl) ?_
 refine lv 1 1 one3 ?_
 refine mv ?_
 refine vl (Y.addI rfl rfl) ?_
 obtain ⟨g27, h⟩ := req_bind h
 refine vl (Y.sliceStr (a := a0.s) a0.at_ (wrap64 (a0.at_ + a1)) (some (.int .i64 a0.at_)) (some (.int .i64 (wrap64 (a0.at_ + a1)))) rfl sty9 rfl rfl (.inr ⟨_, rfl⟩) (.inr ⟨_, rfl⟩) g27) ?_
 refine an ?_
 refine nt hK26 ?_
 refine sr (fun _ hK28 => ?_)
 refine vl (Y.fieldAddr 1 rfl fld155_1 rfl) ?_
 refine lv 1 1 one3 ?_
 refine mv ?_
 refine vl (Y.addI rfl rfl) ?_
 refine vl (Y.fieldAddr 1 rfl fld155_1 rfl) ?_
 refine so 1 1 1 [sV (strV a0.s), sV (.int .i64 (wrap64 (a0.at_ + a1))), sV (.int .i64 a0.err)] (r := [sV (.int .i64 (wrap64 (a0.at_ + a1)))]) rfl (oI oN) size3 ?_
 refine nt hK28 ?_
 refine sr (fun _ hK29 => ?_)
 refine lb 1 0 3 [sV (strV a0.s), sV (.int .i64 (wrap64 (a0.at_ + a1))), sV (.int .i64 a0.err)] row155 ?_
 refine mv ?_
 refine sf 0 3 [sV (strV a0.s), sV (.int .i64 (wrap64 (a0.at_ + a1))), sV (.int .i64 a0.err)] (aggV_cells _) (oI (oI (oI oN))) size155 ?_
 refine an ?_
 refine nt hK29 ?_
 refine G.ret ?_
 obtain rfl := Option.some.inj h
 exact hret _ _ _ _ 2 e12 (.cons (.row (k := 0) rfl rfl row155 (by kernel_rfl)) (.cons (.tmp rfl) .nil)) rfl rfl

/- chirograph/chirographref02.Fail -/
def r02_Fail  (a0 : Rd) (a1 : Int) : Option Rd :=
 (if (a0.err == (0 : Int)) = true then some (⟨a0.s, a0.at_, a1⟩ : Rd) else some a0)

theorem r02_Fail_ok {S : Hp} (a0 : Rd) (a1 : Int) {r : Rd} (h : r02_Fail a0 a1 = some r) : Fn Tryz.prog 170 [aggV [sV (strV a0.s), sV (.int .i64 a0.at_), sV (.int .i64 a0.err)], .int .i64 a1] S (fun v S' => v = aggV [sV (strV r.s), sV (.int .i64 r.at_), sV (.int .i64 r.err)]) := by
 unfold r02_Fail at h
 refine fo [.cell 4 155] 11 Tryz.func170 Tryz.ntmps170 (fun o F Q hQ hN hret => ?_)
 refine sr (fun _ hK1 => ?_)
 refine st (OS.boxA (by decide) rfl (fun ad2 => ?_))
 refine st (OS.alloc _ (by decide) zero155 (fun ad4 => ?_))
 refine nt hK1 ?_
 refine G.seq (fun _ hK6 => ?_)
 refine sr (fun _ hK7 => ?_)
 refine vl (Y.fieldAddr 2 rfl fld155_2 rfl) ?_
 refine lv 1 2 one3 ?_
 refine vl (Y.eqI rfl rfl) ?_
 refine nt hK7 ?_
 refine G.cond _ rfl (fun c8 => ?_) (fun c8 => ?_)
 ·replace h := ite_t c8 h
  refine G.region ?_
  refine mv ?_
  refine vl (Y.fieldAddr 2 rfl fld155_2 rfl) ?_
  refine so 1 2 1 [sV (strV a0.s), sV (.int .i64 a0.at_), sV (.int .i64 a1)] (r := [sV (.int .i64 a1)]) rfl (oI oN) size3 ?_
  refine nt hK6 ?_
  refine sr (fun _ hK9 => ?_)
  refine lb 1 0 3 [sV (strV a0.s), sV (.int .i64 a0.at_), sV (.int .i64 a1)] row155 ?_
  refine sf 0 3 [sV (strV a0.s), sV (.int .i64 a0.at_), sV (.int .i64 a1)] (aggV_cells _) (oI (oI (oI oN))) size155 ?_
  refine nt hK9 ?_
  refine G.ret ?_
  obtain rfl := Option.some.inj h
  exact hret _ _ _ _ 2 l0 (.cons (.row (k := 0) rfl rfl row155 (by kernel_rfl)) .nil) rfl rfl
 replace h := ite_f c8 h
 refine sk hK6 ?_
 refine sr (fun _ hK10 => ?_)
 refine lb 1 0 3 [sV (strV a0.s), sV (.int .i64 a0.at_), sV (.int .i64 a0.err)] row155 ?_
 refine sf 0 3 [sV (strV a0.s), sV (.int .i64 a0.at_), sV (.int .i64 a0.err)] (aggV_cells _) (oI (oI (oI oN))) size155 ?_
 refine nt hK10 ?_
 refine G.ret ?_
 obtain rfl := Option.some.inj h
 exact hret _ _ _ _ 2 l0 (.cons (.row (k := 0) rfl rfl row155 (by kernel_rfl)) .nil) rfl rfl

/- chirograph/chirographref02.ReadNumber -/
def r02_ReadNumber_s1 (t28 : Rd × Str) : (Int × Int) → Option ((Int × Int) ⊕ (Int × Int))
 | (x72, x73) => (if (decide (x72 < (lenI t28.2))) = true then ((req ((0 : Int) ≤ x72 ∧ x72 < lenI t28.2)).bind fun _ => some (.inl ((wrap64 (x72 + (1 : Int))), (wrap64 ((wrap64 ((256 : Int) * x73)) + ((getI t28.2 x72).toNat : Int)))))) else some (.inr (x72, x73)))

def r02_ReadNumber  (a0 : Rd) : Option (Rd × Int) :=
 ((r02_Take a0 (1 : Int)).bind fun t7 => (if (t7.1.err != (0 : Int)) = true then some (t7.1, (0 : Int)) else ((req ((0 : Int) ≤ (0 : Int) ∧ (0 : Int) < lenI t7.2)).bind fun _ => (if (decide (8 < (getI t7.2 (0 : Int)))) = true then ((r02_Fail t7.1 (4 : Int)).bind fun t21 => some (t21, (0 : Int))) else ((req ((0 : Int) ≤ (0 : Int) ∧ (0 : Int) < lenI t7.2)).bind fun _ => ((r02_Take t7.1 ((getI t7.2 (0 : Int)).toNat : Int)).bind fun t28 => ((if (t28.1.err != (0 : Int)) = true then some true else some ((lenI t28.2) == (0 : Int))).bind fun b39 => (if b39 = true then some (t28.1, (0 : Int)) else ((req ((0 : Int) ≤ (0 : Int) ∧ (0 : Int) < lenI t28.2)).bind fun _ => ((if ((getI t28.2 (0 : Int)) == 0) = true then some true else ((if ((lenI t28.2) == (8 : Int)) = true then ((req ((0 : Int) ≤ (0 : Int) ∧ (0 : Int) < lenI t28.2)).bind fun _ => some (decide (127 < (getI t28.2 (0 : Int))))) else some false).bind fun b52 => some b52)).bind fun b49 => (if b49 = true then ((r02_Fail t28.1 (4 : Int)).bind fun t62 => some (t62, (0 : Int))) else ((iter (r02_ReadNumber_s1 t28) ((0 : Int), (0 : Int))).bind fun b75 => (match b75 with | (x72, x73) => some (t28.1, x73))))))))))))))

theorem r02_ReadNumber_ok {S : Hp} (a0 : Rd) {r : Rd × Int} (h : r02_ReadNumber a0 = some r) : Fn Tryz.prog 95 [aggV [sV (strV a0.s), sV (.int .i64 a0.at_), sV (.int .i64 a0.err)]] S (fun v S' => v = .tuple #[aggV [sV (strV r.1.s), sV (.int .i64 r.1.at_), sV (.int .i64 r.1.err)], .int .i64 r.2]) := by
 unfold r02_ReadNumber at h
 refine fo [.cell 2 155, .tmp 3] 69 Tryz.func95 Tryz.ntmps95 (fun o F Q hQ hN hret => ?_)
 refine sr (fun _ hK1 => ?_)
 refine st (OS.boxA (by decide) rfl (fun ad2 => ?_))
 refine st (OS.alloc _ (by decide) zero155 (fun ad4 => ?_))
 refine an ?_
 refine nt hK1 ?_
 refine sr (fun _ hK6 => ?_)
 refine lb 1 0 3 [sV (strV a0.s), sV (.int .i64 a0.at_), sV (.int .i64 a0.err)] row155 ?_
 obtain ⟨t7, wt7, h⟩ := bind_some' h
 refine st (cl fb169 (r02_Take_ok a0 (1 : Int) wt7) (fun v8 S9 e10 z11 => ?_))
 obtain rfl := z11
 refine mv ?_
 refine vl (Y.extract _ rfl rfl) ?_
 refine vl (Y.extract _ rfl rfl) ?_
 refine sf 1 3 [sV (strV t7.1.s), sV (.int .i64 t7.1.at_), sV (.int .i64 t7.1.err)] (aggV_cells _) (oI (oI (oI oN))) size155 ?_
 refine an ?_
 refine nt hK6 ?_
 refine G.seq (fun _ hK12 => ?_)
 refine sr (fun _ hK13 => ?_)
 refine vl (Y.fieldAddr 2 rfl fld155_2 rfl) ?_
 refine lv 1 2 one3 ?_
 refine vl (Y.neI rfl rfl) ?_
 refine nt hK13 ?_
 refine G.cond _ rfl (fun c14 => ?_) (fun c14 => ?_)
 ·replace h := ite_t c14 h
  refine sr (fun _ hK15 => ?_)
  refine lb 1 0 3 [sV (strV t7.1.s), sV (.int .i64 t7.1.at_), sV (.int .i64 t7.1.err)] row155 ?_
  refine sf 0 3 [sV (strV t7.1.s), sV (.int .i64 t7.1.at_), sV (.int .i64 t7.1.err)] (aggV_cells _) (oI (oI (oI oN))) size155 ?_
  refine an ?_
  refine nt hK15 ?_
  refine G.ret ?_
  obtain rfl := Option.some.inj h
  exact hret _ _ _ _ 2 e10 (.cons (.row (k := 0) rfl rfl row155 (by kernel_rfl)) (.cons (.tmp rfl) .nil)) rfl rfl
 replace h := ite_f c14 h
 refine sk hK12 ?_
 refine G.seq (fun _ hK16 => ?_)
 refine sr (fun _ hK17 => ?_)
 refine mv ?_
 obtain ⟨g18, h⟩ := req_bind h
 refine vl (Y.indexStr rfl rfl sty9 g18) ?_
 refine vl (Y.gtr_u8 (a := (getI t7.2 (0 : Int))) (b := 8) rfl rfl) ?_
 refine nt hK17 ?_
 refine G.cond _ rfl (fun c19 => ?_) (fun c19 => ?_)
 ·replace h := ite_t c19 h
  refine sr (fun _ hK20 => ?_)
  refine lb 1 0 3 [sV (strV t7.1.s), sV (.int .i64 t7.1.at_), sV (.int .i64 t7.1.err)] row155 ?_
  obtain ⟨t21, wt21, h⟩ := bind_some' h
  refine st (cl fb170 (r02_Fail_ok t7.1 (4 : Int) wt21) (fun v22 S23 e24 z25 => ?_))
  obtain rfl := z25
  refine sf 0 3 [sV (strV t21.s), sV (.int .i64 t21.at_), sV (.int .i64 t21.err)] (aggV_cells _) (oI (oI (oI oN))) size155 ?_
  refine an ?_
  refine nt hK20 ?_
  refine G.ret ?_
  obtain rfl := Option.some.inj h
  exact hret _ _ _ _ 2 (l2 e10 e24) (.cons (.row (k := 0) rfl rfl row155 (by kernel_rfl)) (.cons (.tmp rfl) .nil)) rfl rfl
 replace h := ite_f c19 h
 refine sk hK16 ?_
 refine G.seq (fun _ hK26 => ?_)
 obtain ⟨g27, h⟩ := req_bind h
 obtain ⟨t28, wt28, h⟩ := bind_some' h
 refine G.drawS 8 _ (Blk ad4 [sV (strV ([] : Str)), sV (.int .i64 0), sV (.int .i64 0)] :: (fun _ => True) :: F) mixed .refl (by kernel_rfl) ?_
 refine tk 0 [0, 8] rfl hQ Gd.none (fun S₀ X₀ e₀ => Y.loadB (X₀.length + 1)  0 3 [sV (strV t7.1.s), sV (.int .i64 t7.1.at_), sV (.int .i64 t7.1.err)] rfl (Lk rfl) rfl rfl row155 (by kernel_rfl)) ?_
 refine tx 1 rfl (.same (.lose .refl)) hQ (fun _ _ _ => Y.move rfl) ?_
 refine tx 2 rfl (.same (.lose .refl)) hQ (fun _ _ _ => Y.indexStr rfl rfl sty9 g27) ?_
 refine tx 3 rfl (.same (.lose .refl)) hQ (fun _ _ _ => Y.cv_u8_i64 (a := (getI t7.2 (0 : Int))) rfl int5 int3) ?_
 refine g1 4 ?_
 refine n1 rfl (cl fb169 (r02_Take_ok t7.1 ((getI t7.2 (0 : Int)).toNat : Int) wt28) (fun v33 S34 e35 z36 => ⟨⟨[], .refl, e35⟩, ?_⟩))
 obtain rfl := z36
 refine tx 5 rfl (.same (.lose .refl)) hQ (fun _ _ _ => Y.move rfl) ?_
 refine tx 6 rfl (.same (.lose .refl)) hQ (fun _ _ _ => Y.extract _ rfl rfl) ?_
 refine tx 7 rfl (.same (.lose .refl)) hQ (fun _ _ _ => Y.extract _ rfl rfl) ?_
 refine g1 8 ?_
 refine n2 rfl (OS.store 1 0 3 [sV (strV t28.1.s), sV (.int .i64 t28.1.at_), sV (.int .i64 t28.1.err)] (r := [sV (strV t28.1.s), sV (.int .i64 t28.1.at_), sV (.int .i64 t28.1.err)]) rfl rfl (aggV_cells _) (oI (oI (oI oN))) rfl rfl size155 (by kernel_rfl) (by kernel_rfl) (by kernel_rfl) ⟨⟨[], (.same (.lose .refl)), e35⟩, ?_⟩)
 refine tx 9 rfl (.same (.lose .refl)) hQ (fun _ _ _ => Y.assign rfl) ?_
 refine dn ?_
 refine GX.then hK26 ?_
 refine G.seq (fun _ hK37 => ?_)
 refine sr (fun _ hK38 => ?_)
 refine vl (Y.fieldAddr 2 rfl fld155_2 rfl) ?_
 refine lv 1 2 one3 ?_
 refine vl (Y.neI rfl rfl) ?_
 refine mv ?_
 obtain ⟨b39, wb39, h⟩ := bind_some' h
 refine GO.joinB 4 37 (b39 = ·) (fun K41 hK41 => ?_) ?_
 ·replace h := wb39
  rcases Bool.eq_false_or_eq_true (t28.1.err != (0 : Int)) with c40 | c40
  ·replace h := ite_t c40 h
   refine gf 33 c40 ?_
   refine gf 33 c40 ?_
   refine gf 33 c40 ?_
   refine vl (Y.pickT _ c40 rfl rfl) ?_
   refine GO.nil ?_
   refine p2 (p2 (p2 ?_))
   exact hK41 _ _ l0 (Option.some.inj h).symm
  replace h := ite_f c40 h
  refine gv 33 c40 (Y.move rfl) ?_
  refine gv 33 c40 (Y.lenStr (v := t28.2) rfl sty9) ?_
  refine gv 33 c40 (Y.eqI rfl rfl) ?_
  refine vl (Y.pickF _ c40 rfl rfl) ?_
  refine GO.nil ?_
  refine p2 (p2 (p2 ?_))
  exact hK41 _ _ l0 (Option.some.inj h).symm
 rintro _ S42 e43 rfl
 refine nt hK38 ?_
 refine G.cond _ rfl (fun c44 => ?_) (fun c44 => ?_)
 ·replace h := ite_t c44 h
  refine sr (fun _ hK45 => ?_)
  refine lb 1 0 3 [sV (strV t28.1.s), sV (.int .i64 t28.1.at_), sV (.int .i64 t28.1.err)] row155 ?_
  refine sf 0 3 [sV (strV t28.1.s), sV (.int .i64 t28.1.at_), sV (.int .i64 t28.1.err)] (aggV_cells _) (oI (oI (oI oN))) size155 ?_
  refine an ?_
  refine nt hK45 ?_
  refine G.ret ?_
  obtain rfl := Option.some.inj h
  exact hret _ _ _ _ 2 (l2 e10 (l2 e35 e43)) (.cons (.row (k := 0) rfl rfl row155 (by kernel_rfl)) (.cons (.tmp rfl) .nil)) rfl rfl
 replace h := ite_f c44 h
 refine sk hK37 ?_
 refine G.seq (fun _ hK46 => ?_)
 refine sr (fun _ hK47 => ?_)
 refine mv ?_
 obtain ⟨g48, h⟩ := req_bind h
 refine vl (Y.indexStr rfl rfl sty9 g48) ?_
 refine vl (Y.eql_u8 (a := (getI t28.2 (0 : Int))) (b := 0) rfl rfl) ?_
 refine mv ?_
 obtain ⟨b49, wb49, h⟩ := bind_some' h
 refine GO.joinB 9 51 (b49 = ·) (fun K51 hK51 => ?_) ?_
 ·replace h := wb49
  rcases Bool.eq_false_or_eq_true ((getI t28.2 (0 : Int)) == 0) with c50 | c50
  ·replace h := ite_t c50 h
   refine gf 42 c50 ?_
   refine gf 42 c50 ?_
   refine gf 42 c50 ?_
   refine gf 42 c50 ?_
   refine GO.off' 46 rfl (by decide) rfl (by decide) ?_
   refine GO.off' 46 rfl (by decide) rfl (by decide) ?_
   refine GO.off' 46 rfl (by decide) rfl (by decide) ?_
   refine gf 42 c50 ?_
   refine vl (Y.pickT _ c50 rfl rfl) ?_
   refine GO.nil ?_
   refine p2 (p2 (p2 (p2 (p2 (p2 (p2 (p2 ?_)))))))
   exact hK51 _ _ l0 (Option.some.inj h).symm
  replace h := ite_f c50 h
  refine gv 42 c50 (Y.move rfl) ?_
  refine gv 42 c50 (Y.lenStr (v := t28.2) rfl sty9) ?_
  refine gv 42 c50 (Y.eqI rfl rfl) ?_
  refine gv 42 c50 (Y.move rfl) ?_
  obtain ⟨b52, wb52, h⟩ := bind_some' h
  refine GO.joinB 4 50 (b52 = ·) (fun K54 hK54 => ?_) ?_
  ·replace h := wb52
   rcases Bool.eq_false_or_eq_true ((lenI t28.2) == (8 : Int)) with c53 | c53
   ·replace h := ite_t c53 h
    refine gv 46 c53 (Y.move rfl) ?_
    obtain ⟨g55, h⟩ := req_bind h
    refine gv 46 c53 (Y.indexStr rfl rfl sty9 g55) ?_
    refine gv 46 c53 (Y.gtr_u8 (a := (getI t28.2 (0 : Int))) (b := 127) rfl rfl) ?_
    refine gv 42 c50 (Y.pickT _ c53 rfl rfl) ?_
    refine GO.nil ?_
    refine p2 (p2 (p2 ?_))
    exact hK54 _ _ l0 (Option.some.inj h).symm
   replace h := ite_f c53 h
   refine gf 46 c53 ?_
   refine gf 46 c53 ?_
   refine gf 46 c53 ?_
   refine gv 42 c50 (Y.pickF _ c53 rfl rfl) ?_
   refine GO.nil ?_
   refine p2 (p2 (p2 ?_))
   exact hK54 _ _ l0 (Option.some.inj h).symm
  rintro _ S56 e57 rfl
  refine vl (Y.pickF _ c50 rfl rfl) ?_
  refine GO.nil ?_
  refine p2 (p2 (p2 (p2 (p2 ?_))))
  exact hK51 _ _ e57 (Option.some.inj h).symm
 rintro _ S58 e59 rfl
 refine nt hK47 ?_
 refine G.cond _ rfl (fun c60 => ?_) (fun c60 => ?_)
 ·replace h := ite_t c60 h
  refine sr (fun _ hK61 => ?_)
  refine lb 1 0 3 [sV (strV t28.1.s), sV (.int .i64 t28.1.at_), sV (.int .i64 t28.1.err)] row155 ?_
  obtain ⟨t62, wt62, h⟩ := bind_some' h
  refine st (cl fb170 (r02_Fail_ok t28.1 (4 : Int) wt62) (fun v63 S64 e65 z66 => ?_))
  obtain rfl := z66
  refine sf 0 3 [sV (strV t62.s), sV (.int .i64 t62.at_), sV (.int .i64 t62.err)] (aggV_cells _) (oI (oI (oI oN))) size155 ?_
  refine an ?_
  refine nt hK61 ?_
  refine G.ret ?_
  obtain rfl := Option.some.inj h
  exact hret _ _ _ _ 2 (l2 e10 (l2 e35 (l2 e43 (l2 e59 e65)))) (.cons (.row (k := 0) rfl rfl row155 (by kernel_rfl)) (.cons (.tmp rfl) .nil)) rfl rfl
 replace h := ite_f c60 h
 refine sk hK46 ?_
 refine sr (fun _ hK67 => ?_)
 refine an ?_
 refine nt hK67 ?_
 refine G.seq (fun _ hK68 => ?_)
 refine sr (fun _ hK69 => ?_)
 refine an ?_
 refine nt hK69 ?_
 refine G.block ?_
 obtain ⟨b75, wb75, ho76⟩ := bind_some' h
 refine G.keep [7, 6, 5, 2, 1] rfl ?_
 refine G.loopK (r02_ReadNumber_s1 t28) (fun s₀ E' S' L' => match s₀ with | (x72, x73) => S58.le S' ∧ E' = [(7, .int .i64 x72), (6, .int .i64 x73), (5, strV t28.2), (2, .pointer (some ⟨ad4, 0, none⟩)), (1, .pointer (some ⟨ad2, 0, none⟩))] ∧ Blk ad4 [sV (strV ([] : Str)), sV (.int .i64 0), sV (.int .i64 0)] :: Blk ad2 [sV (strV t28.1.s), sV (.int .i64 t28.1.at_), sV (.int .i64 t28.1.err)] :: F = L') b75 0 (fun E₀ S₀ L₀ => ∃ (x72 : Int) (x73 : Int), S58.le S₀ ∧ b75 = (x72, x73) ∧ E₀ = [(6, .int .i64 x73), (2, .pointer (some ⟨ad4, 0, none⟩)), (1, .pointer (some ⟨ad2, 0, none⟩))] ∧ Blk ad4 [sV (strV ([] : Str)), sV (.int .i64 0), sV (.int .i64 0)] :: Blk ad2 [sV (strV t28.1.s), sV (.int .i64 t28.1.at_), sV (.int .i64 t28.1.err)] :: F = L₀) wb75 ?_ ?_ ?_
 ·rintro _ S82 _ ⟨x72, x73, e83, rfl, rfl, rfl⟩
  have h := ho76; clear ho76
  try dsimp only at h
  refine GX.exit_block ?_
  refine GX.then hK68 ?_
  refine sr (fun _ hK84 => ?_)
  refine lb 1 0 3 [sV (strV t28.1.s), sV (.int .i64 t28.1.at_), sV (.int .i64 t28.1.err)] row155 ?_
  refine mv ?_
  refine sf 0 3 [sV (strV t28.1.s), sV (.int .i64 t28.1.at_), sV (.int .i64 t28.1.err)] (aggV_cells _) (oI (oI (oI oN))) size155 ?_
  refine an ?_
  refine nt hK84 ?_
  refine G.ret ?_
  obtain rfl := Option.some.inj h
  exact hret _ _ _ _ 2 (l2 e10 (l2 e35 (l2 e43 (l2 e59 e83)))) (.cons (.row (k := 0) rfl rfl row155 (by kernel_rfl)) (.cons (.tmp rfl) .nil)) rfl rfl
 ·exact ⟨Hp.le_refl _, rfl, rfl⟩
 rintro ⟨x72, x73⟩ _ S70 _ ⟨e71, rfl, rfl⟩ out1 h hf1 K1 hK1 hx74
 rw [r02_ReadNumber_s1] at h
 refine G.seq (fun _ hK77 => ?_)
 refine sr (fun _ hK78 => ?_)
 refine mv ?_
 refine mv ?_
 refine vl (Y.lenStr (v := t28.2) rfl sty9) ?_
 refine vl (Y.ltI rfl rfl) ?_
 refine nt hK78 ?_
 refine G.cond _ rfl (fun c79 => ?_) (fun c79 => ?_)
 ·replace h := ite_t c79 h
  refine sk hK77 ?_
  refine G.seq (fun _ hK80 => ?_)
  refine G.block ?_
  refine G.region ?_
  refine mv ?_
  refine vl (Y.mulI rfl rfl) ?_
  refine mv ?_
  refine mv ?_
  obtain ⟨g81, h⟩ := req_bind h
  refine vl (Y.indexStr rfl rfl sty9 g81) ?_
  refine vl (Y.cv_u8_i64 (a := (getI t28.2 x72)) rfl int5 int3) ?_
  refine vl (Y.addI rfl rfl) ?_
  refine an ?_
  refine GO.nil ?_
  refine GX.normal_block ?_
  refine GX.then hK80 ?_
  refine G.region ?_
  refine mv ?_
  refine vl (Y.addI rfl rfl) ?_
  refine an ?_
  refine GO.nil ?_
  obtain rfl := Option.some.inj h
  refine GX.keep [7, 6, 5, 2, 1] rfl ?_
  exact hK1 _ _ _ _ rfl ⟨e71, rfl, rfl⟩
 replace h := ite_f c79 h
 refine G.exit ?_
 refine GX.exit_then ?_
 obtain rfl := Option.some.inj h
 refine GX.keep [6, 2, 1] rfl ?_
 exact hx74 _ _ _ ⟨_, _, e71, (hf1 _ rfl).symm, rfl, rfl⟩

/- chirograph/chirographref02.Open -/
def r02_Open  (a0 : Str) : Option Rd :=
 (if (decide ((65536 : Int) < (lenI a0))) = true then some (⟨a0, (0 : Int), (2 : Int)⟩ : Rd) else some (⟨a0, (0 : Int), (0 : Int)⟩ : Rd))

theorem r02_Open_ok {S : Hp} (a0 : Str) {r : Rd} (h : r02_Open a0 = some r) : Fn Tryz.prog 96 [strV a0] S (fun v S' => v = aggV [sV (strV r.s), sV (.int .i64 r.at_), sV (.int .i64 r.err)]) := by
 unfold r02_Open at h
 refine fo [.cell 2 155] 10 Tryz.func96 Tryz.ntmps96 (fun o F Q hQ hN hret => ?_)
 refine sr (fun _ hK1 => ?_)
 refine st (OS.alloc _ (by decide) zero155 (fun ad2 => ?_))
 refine nt hK1 ?_
 refine G.seq (fun _ hK4 => ?_)
 refine sr (fun _ hK5 => ?_)
 refine mv ?_
 refine vl (Y.lenStr (v := a0) rfl sty9) ?_
 refine vl (Y.gtI rfl rfl) ?_
 refine nt hK5 ?_
 refine G.cond _ rfl (fun c6 => ?_) (fun c6 => ?_)
 ·replace h := ite_t c6 h
  refine sr (fun _ hK7 => ?_)
  refine mv ?_
  refine vl (Y.buildE _ [sV (strV a0), sV (.int .i64 (0 : Int)), sV (.int .i64 (2 : Int))] strt155 zero155 rfl (.cons 0 1 [sV (strV a0)] rfl rfl rfl rfl rfl (.cons 1 1 [sV (.int .i64 (0 : Int))] rfl rfl rfl rfl rfl (.cons 2 1 [sV (.int .i64 (2 : Int))] rfl rfl rfl rfl rfl .nil)))) ?_
  refine sf 0 3 [sV (strV a0), sV (.int .i64 (0 : Int)), sV (.int .i64 (2 : Int))] (aggV_cells _) (oI (oI (oI oN))) size155 ?_
  refine nt hK7 ?_
  refine G.ret ?_
  obtain rfl := Option.some.inj h
  exact hret _ _ _ _ 1 l0 (.cons (.row (k := 0) rfl rfl row155 (by kernel_rfl)) .nil) rfl rfl
 replace h := ite_f c6 h
 refine sk hK4 ?_
 refine sr (fun _ hK8 => ?_)
 refine mv ?_
 refine vl (Y.buildE _ [sV (strV a0), sV (.int .i64 (0 : Int)), sV (.int .i64 (0 : Int))] strt155 zero155 rfl (.cons 0 1 [sV (strV a0)] rfl rfl rfl rfl rfl (.cons 1 1 [sV (.int .i64 (0 : Int))] rfl rfl rfl rfl rfl (.cons 2 1 [sV (.int .i64 (0 : Int))] rfl rfl rfl rfl rfl .nil)))) ?_
 refine sf 0 3 [sV (strV a0), sV (.int .i64 (0 : Int)), sV (.int .i64 (0 : Int))] (aggV_cells _) (oI (oI (oI oN))) size155 ?_
 refine nt hK8 ?_
 refine G.ret ?_
 obtain rfl := Option.some.inj h
 exact hret _ _ _ _ 1 l0 (.cons (.row (k := 0) rfl rfl row155 (by kernel_rfl)) .nil) rfl rfl

/- chirograph/chirographref02.ReadText -/
def r02_ReadText  (a0 : Rd) : Option (Rd × Str) :=
 ((r02_ReadNumber a0).bind fun t7 => ((if (t7.1.err == (0 : Int)) = true then some (decide ((65536 : Int) < t7.2)) else some false).bind fun b14 => (if b14 = true then ((r02_Fail t7.1 (2 : Int)).bind fun t20 => ((r02_Take t20 t7.2).bind fun t26 => some (t26.1, t26.2))) else ((r02_Take t7.1 t7.2).bind fun t32 => some (t32.1, t32.2)))))

theorem r02_ReadText_ok {S : Hp} (a0 : Rd) {r : Rd × Str} (h : r02_ReadText a0 = some r) : Fn Tryz.prog 97 [aggV [sV (strV a0.s), sV (.int .i64 a0.at_), sV (.int .i64 a0.err)]] S (fun v S' => v = .tuple #[aggV [sV (strV r.1.s), sV (.int .i64 r.1.at_), sV (.int .i64 r.1.err)], strV r.2]) := by
 unfold r02_ReadText at h
 refine fo [.cell 2 155, .tmp 3] 24 Tryz.func97 Tryz.ntmps97 (fun o F Q hQ hN hret => ?_)
 refine sr (fun _ hK1 => ?_)
 refine st (OS.boxA (by decide) rfl (fun ad2 => ?_))
 refine st (OS.alloc _ (by decide) zero155 (fun ad4 => ?_))
 refine an ?_
 refine nt hK1 ?_
 refine sr (fun _ hK6 => ?_)
 refine lb 1 0 3 [sV (strV a0.s), sV (.int .i64 a0.at_), sV (.int .i64 a0.err)] row155 ?_
 obtain ⟨t7, wt7, h⟩ := bind_some' h
 refine st (cl fb95 (r02_ReadNumber_ok a0 wt7) (fun v8 S9 e10 z11 => ?_))
 obtain rfl := z11
 refine mv ?_
 refine vl (Y.extract _ rfl rfl) ?_
 refine vl (Y.extract _ rfl rfl) ?_
 refine sf 1 3 [sV (strV t7.1.s), sV (.int .i64 t7.1.at_), sV (.int .i64 t7.1.err)] (aggV_cells _) (oI (oI (oI oN))) size155 ?_
 refine an ?_
 refine nt hK6 ?_
 refine G.seq (fun _ hK12 => ?_)
 refine sr (fun _ hK13 => ?_)
 refine vl (Y.fieldAddr 2 rfl fld155_2 rfl) ?_
 refine lv 1 2 one3 ?_
 refine vl (Y.eqI rfl rfl) ?_
 refine mv ?_
 obtain ⟨b14, wb14, h⟩ := bind_some' h
 refine GO.joinB 3 16 (b14 = ·) (fun K16 hK16 => ?_) ?_
 ·replace h := wb14
  rcases Bool.eq_false_or_eq_true (t7.1.err == (0 : Int)) with c15 | c15
  ·replace h := ite_t c15 h
   refine gv 13 c15 (Y.move rfl) ?_
   refine gv 13 c15 (Y.gtI rfl rfl) ?_
   refine vl (Y.pickT _ c15 rfl rfl) ?_
   refine GO.nil ?_
   refine p2 (p2 ?_)
   exact hK16 _ _ l0 (Option.some.inj h).symm
  replace h := ite_f c15 h
  refine gf 13 c15 ?_
  refine gf 13 c15 ?_
  refine vl (Y.pickF _ c15 rfl rfl) ?_
  refine GO.nil ?_
  refine p2 (p2 ?_)
  exact hK16 _ _ l0 (Option.some.inj h).symm
 rintro _ S17 e18 rfl
 refine nt hK13 ?_
 refine G.cond _ rfl (fun c19 => ?_) (fun c19 => ?_)
 ·replace h := ite_t c19 h
  refine G.region ?_
  refine lb 1 0 3 [sV (strV t7.1.s), sV (.int .i64 t7.1.at_), sV (.int .i64 t7.1.err)] row155 ?_
  obtain ⟨t20, wt20, h⟩ := bind_some' h
  refine st (cl fb170 (r02_Fail_ok t7.1 (2 : Int) wt20) (fun v21 S22 e23 z24 => ?_))
  obtain rfl := z24
  refine sf 1 3 [sV (strV t20.s), sV (.int .i64 t20.at_), sV (.int .i64 t20.err)] (aggV_cells _) (oI (oI (oI oN))) size155 ?_
  refine nt hK12 ?_
  refine sr (fun _ hK25 => ?_)
  refine lb 1 0 3 [sV (strV t20.s), sV (.int .i64 t20.at_), sV (.int .i64 t20.err)] row155 ?_
  refine mv ?_
  obtain ⟨t26, wt26, h⟩ := bind_some' h
  refine st (cl fb169 (r02_Take_ok t20 t7.2 wt26) (fun v27 S28 e29 z30 => ?_))
  obtain rfl := z30
  refine vl (Y.extract _ rfl rfl) ?_
  refine vl (Y.extract _ rfl rfl) ?_
  refine sf 0 3 [sV (strV t26.1.s), sV (.int .i64 t26.1.at_), sV (.int .i64 t26.1.err)] (aggV_cells _) (oI (oI (oI oN))) size155 ?_
  refine an ?_
  refine nt hK25 ?_
  refine G.ret ?_
  obtain rfl := Option.some.inj h
  exact hret _ _ _ _ 2 (l2 e10 (l2 e18 (l2 e23 e29))) (.cons (.row (k := 0) rfl rfl row155 (by kernel_rfl)) (.cons (.tmp rfl) .nil)) rfl rfl
 replace h := ite_f c19 h
 refine sk hK12 ?_
 refine sr (fun _ hK31 => ?_)
 refine lb 1 0 3 [sV (strV t7.1.s), sV (.int .i64 t7.1.at_), sV (.int .i64 t7.1.err)] row155 ?_
 refine mv ?_
 obtain ⟨t32, wt32, h⟩ := bind_some' h
 refine st (cl fb169 (r02_Take_ok t7.1 t7.2 wt32) (fun v33 S34 e35 z36 => ?_))
 obtain rfl := z36
 refine vl (Y.extract _ rfl rfl) ?_
 refine vl (Y.extract _ rfl rfl) ?_
 refine sf 0 3 [sV (strV t32.1.s), sV (.int .i64 t32.1.at_), sV (.int .i64 t32.1.err)] (aggV_cells _) (oI (oI (oI oN))) size155 ?_
 refine an ?_
 refine nt hK31 ?_
 refine G.ret ?_
 obtain rfl := Option.some.inj h
 exact hret _ _ _ _ 2 (l2 e10 (l2 e18 e35)) (.cons (.row (k := 0) rfl rfl row155 (by kernel_rfl)) (.cons (.tmp rfl) .nil)) rfl rfl

/- chirograph/chirographref02.ReadLabel -/
def r02_ReadLabel_s1 (t12 : Rd × Str) : (Int × Lab) → Option ((Int × Lab) ⊕ (Int × Lab))
 | (x21, x22) => (if (decide (x21 < (lenI t12.2))) = true then ((req ((0 : Int) ≤ x21 ∧ x21 < lenI t12.2)).bind fun _ => ((req ((0 : Int) ≤ x21 ∧ x21 < (32 : Nat))).bind fun _ => some (.inl ((wrap64 (x21 + (1 : Int))), (setV x22 x21 (getI t12.2 x21)))))) else some (.inr (x21, x22)))

def r02_ReadLabel  (a0 : Rd) : Option (Rd × Lab) :=
 ((r02_Take a0 (32 : Int)).bind fun t12 => ((iter (r02_ReadLabel_s1 t12) ((0 : Int), zL)).bind fun b24 => (match b24 with | (x21, x22) => some (t12.1, x22))))

theorem r02_ReadLabel_ok {S : Hp} (a0 : Rd) {r : Rd × Lab} (h : r02_ReadLabel a0 = some r) : Fn Tryz.prog 173 [aggV [sV (strV a0.s), sV (.int .i64 a0.at_), sV (.int .i64 a0.err)]] S (fun v S' => v = .tuple #[aggV [sV (strV r.1.s), sV (.int .i64 r.1.at_), sV (.int .i64 r.1.err)], aggV [sL r.2]]) := by
 unfold r02_ReadLabel at h
 refine fo [.cell 2 155, .cell 3 23] 26 Tryz.func173 Tryz.ntmps173 (fun o F Q hQ hN hret => ?_)
 refine sr (fun _ hK1 => ?_)
 refine st (OS.boxA (by decide) rfl (fun ad2 => ?_))
 refine st (OS.alloc _ (by decide) zero155 (fun ad4 => ?_))
 refine st (OS.alloc _ (by decide) zero23 (fun ad6 => ?_))
 refine nt hK1 ?_
 refine sr (fun _ hK8 => ?_)
 refine vl (Y.buildA [] [sL zL] arr23 zero23 rfl (by kernel_rfl) (by kernel_rfl)) ?_
 refine st (OS.alloc _ (by decide) zero23 (fun ad9 => ?_))
 refine sf 0 1 [sL zL] (aggV_cells _) (oL oN) size23 ?_
 refine nt hK8 ?_
 refine sr (fun _ hK11 => ?_)
 refine lb 3 0 3 [sV (strV a0.s), sV (.int .i64 a0.at_), sV (.int .i64 a0.err)] row155 ?_
 obtain ⟨t12, wt12, h⟩ := bind_some' h
 refine st (cl fb169 (r02_Take_ok a0 (32 : Int) wt12) (fun v13 S14 e15 z16 => ?_))
 obtain rfl := z16
 refine mv ?_
 refine vl (Y.extract _ rfl rfl) ?_
 refine vl (Y.extract _ rfl rfl) ?_
 refine sf 3 3 [sV (strV t12.1.s), sV (.int .i64 t12.1.at_), sV (.int .i64 t12.1.err)] (aggV_cells _) (oI (oI (oI oN))) size155 ?_
 refine an ?_
 refine nt hK11 ?_
 refine G.seq (fun _ hK17 => ?_)
 refine sr (fun _ hK18 => ?_)
 refine an ?_
 refine nt hK18 ?_
 refine G.block ?_
 obtain ⟨b24, wb24, ho25⟩ := bind_some' h
 refine G.keep [6, 5, 4, 3, 2, 1] rfl ?_
 refine G.loopK (r02_ReadLabel_s1 t12) (fun s₀ E' S' L' => match s₀ with | (x21, x22) => S14.le S' ∧ E' = [(6, .int .i64 x21), (5, strV t12.2), (4, .pointer (some ⟨ad9, 0, none⟩)), (3, .pointer (some ⟨ad6, 0, none⟩)), (2, .pointer (some ⟨ad4, 0, none⟩)), (1, .pointer (some ⟨ad2, 0, none⟩))] ∧ Blk ad9 [sL x22] :: Blk ad6 [sL zL] :: Blk ad4 [sV (strV ([] : Str)), sV (.int .i64 0), sV (.int .i64 0)] :: Blk ad2 [sV (strV t12.1.s), sV (.int .i64 t12.1.at_), sV (.int .i64 t12.1.err)] :: F = L') b24 0 (fun E₀ S₀ L₀ => ∃ (x21 : Int) (x22 : Lab), S14.le S₀ ∧ b24 = (x21, x22) ∧ E₀ = [(4, .pointer (some ⟨ad9, 0, none⟩)), (3, .pointer (some ⟨ad6, 0, none⟩)), (2, .pointer (some ⟨ad4, 0, none⟩)), (1, .pointer (some ⟨ad2, 0, none⟩))] ∧ Blk ad9 [sL x22] :: Blk ad6 [sL zL] :: Blk ad4 [sV (strV ([] : Str)), sV (.int .i64 0), sV (.int .i64 0)] :: Blk ad2 [sV (strV t12.1.s), sV (.int .i64 t12.1.at_), sV (.int .i64 t12.1.err)] :: F = L₀) wb24 ?_ ?_ ?_
 ·rintro _ S32 _ ⟨x21, x22, e33, rfl, rfl, rfl⟩
  have h := ho25; clear ho25
  try dsimp only at h
  refine GX.exit_block ?_
  refine GX.then hK17 ?_
  refine G.seq (fun _ hK34 => ?_)
  refine G.drawS 2 _ (Blk ad9 [sL x22] :: (fun _ => True) :: (fun _ => True) :: Blk ad2 [sV (strV t12.1.s), sV (.int .i64 t12.1.at_), sV (.int .i64 t12.1.err)] :: F) mixed .refl (by kernel_rfl) ?_
  refine tx 0 rfl (.same (.lose (.lose .refl))) hQ (fun S₀ X₀ e₀ => Y.loadB (X₀.length + 3)  0 3 [sV (strV t12.1.s), sV (.int .i64 t12.1.at_), sV (.int .i64 t12.1.err)] rfl (Lk rfl) rfl rfl row155 (by kernel_rfl)) ?_
  refine tx 1 rfl (.same (.lose (.lose .refl))) hQ (fun S₀ X₀ e₀ => Y.loadB (X₀.length + 0)  0 1 [sL x22] rfl (Lk rfl) rfl rfl row23 (by kernel_rfl)) ?_
  refine g1 2 ?_
  refine n2 rfl (OS.store 2 0 3 [sV (strV t12.1.s), sV (.int .i64 t12.1.at_), sV (.int .i64 t12.1.err)] (r := [sV (strV t12.1.s), sV (.int .i64 t12.1.at_), sV (.int .i64 t12.1.err)]) rfl rfl (aggV_cells _) (oI (oI (oI oN))) rfl rfl size155 (by kernel_rfl) (by kernel_rfl) (by kernel_rfl) ⟨⟨[], (.same (.lose (.lose .refl))), l0⟩, ?_⟩)
  refine g1 3 ?_
  refine n2 rfl (OS.store 1 0 1 [sL x22] (r := [sL x22]) rfl rfl (aggV_cells _) (oL oN) rfl rfl size23 (by kernel_rfl) (by kernel_rfl) (by kernel_rfl) ⟨⟨[], (.same (.lose (.lose .refl))), l0⟩, ?_⟩)
  refine dn ?_
  refine GX.then hK34 ?_
  refine G.ret ?_
  obtain rfl := Option.some.inj h
  exact hret _ _ _ _ 4 (l2 e15 e33) (.cons (.row (k := 2) rfl rfl row155 (by kernel_rfl)) (.cons (.row (k := 1) rfl rfl row23 (by kernel_rfl)) .nil)) rfl rfl
 ·exact ⟨Hp.le_refl _, rfl, rfl⟩
 rintro ⟨x21, x22⟩ _ S19 _ ⟨e20, rfl, rfl⟩ out1 h hf1 K1 hK1 hx23
 rw [r02_ReadLabel_s1] at h
 refine G.seq (fun _ hK26 => ?_)
 refine sr (fun _ hK27 => ?_)
 refine mv ?_
 refine mv ?_
 refine vl (Y.lenStr (v := t12.2) rfl sty9) ?_
 refine vl (Y.ltI rfl rfl) ?_
 refine nt hK27 ?_
 refine G.cond _ rfl (fun c28 => ?_) (fun c28 => ?_)
 ·replace h := ite_t c28 h
  refine sk hK26 ?_
  refine G.seq (fun _ hK29 => ?_)
  refine G.block ?_
  refine G.region ?_
  refine mv ?_
  refine mv ?_
  refine mv ?_
  obtain ⟨g30, h⟩ := req_bind h
  refine vl (Y.indexStr rfl rfl sty9 g30) ?_
  obtain ⟨g31, h⟩ := req_bind h
  refine vl (Y.idxA rfl rfl arr23 g31) ?_
  refine st (OS.storeE 0 0 (sL (setV x22 x21 (getI t12.2 x21))) [sL (setV x22 x21 (getI t12.2 x21))] _ rfl rfl rfl rfl rfl rfl (lt_of_bnd g31) (set_sL _ _ _) rfl size5 ?_)
  refine GO.nil ?_
  refine GX.normal_block ?_
  refine GX.then hK29 ?_
  refine G.region ?_
  refine mv ?_
  refine vl (Y.addI rfl rfl) ?_
  refine an ?_
  refine GO.nil ?_
  obtain rfl := Option.some.inj h
  refine GX.keep [6, 5, 4, 3, 2, 1] rfl ?_
  exact hK1 _ _ _ _ rfl ⟨e20, rfl, rfl⟩
 replace h := ite_f c28 h
 refine G.exit ?_
 refine GX.exit_then ?_
 obtain rfl := Option.some.inj h
 refine GX.keep [4, 3, 2, 1] rfl ?_
 exact hx23 _ _ _ ⟨_, _, e20, (hf1 _ rfl).symm, rfl, rfl⟩

/- chirograph/chirographref02.Done -/
def r02_Done  (a0 : Rd) : Option Int :=
 ((if (a0.err == (0 : Int)) = true then some (decide (a0.at_ < (lenI a0.s))) else some false).bind fun b6 => (if b6 = true then some (3 : Int) else some a0.err))

theorem r02_Done_ok {S : Hp} (a0 : Rd) {r : Int} (h : r02_Done a0 = some r) : Fn Tryz.prog 101 [aggV [sV (strV a0.s), sV (.int .i64 a0.at_), sV (.int .i64 a0.err)]] S (fun v S' => v = .int .i64 r) := by
 unfold r02_Done at h
 refine fo [.tmp 2] 16 Tryz.func101 Tryz.ntmps101 (fun o F Q hQ hN hret => ?_)
 refine sr (fun _ hK1 => ?_)
 refine st (OS.boxA (by decide) rfl (fun ad2 => ?_))
 refine an ?_
 refine nt hK1 ?_
 refine G.seq (fun _ hK4 => ?_)
 refine sr (fun _ hK5 => ?_)
 refine vl (Y.fieldAddr 2 rfl fld155_2 rfl) ?_
 refine lv 0 2 one3 ?_
 refine vl (Y.eqI rfl rfl) ?_
 refine mv ?_
 obtain ⟨b6, wb6, h⟩ := bind_some' h
 refine GO.joinB 7 13 (b6 = ·) (fun K8 hK8 => ?_) ?_
 ·replace h := wb6
  rcases Bool.eq_false_or_eq_true (a0.err == (0 : Int)) with c7 | c7
  ·replace h := ite_t c7 h
   refine gv 6 c7 (Y.fieldAddr 1 rfl fld155_1 rfl) ?_
   refine gv 6 c7 (Y.loadV 0  1 _ rfl rfl rfl rfl one3) ?_
   refine gv 6 c7 (Y.fieldAddr 0 rfl fld155_0 rfl) ?_
   refine gv 6 c7 (Y.loadV 0  0 _ rfl rfl rfl rfl one9) ?_
   refine gv 6 c7 (Y.lenStr (v := a0.s) rfl sty9) ?_
   refine gv 6 c7 (Y.ltI rfl rfl) ?_
   refine vl (Y.pickT _ c7 rfl rfl) ?_
   refine GO.nil ?_
   refine p2 (p2 (p2 (p2 (p2 (p2 ?_)))))
   exact hK8 _ _ l0 (Option.some.inj h).symm
  replace h := ite_f c7 h
  refine gf 6 c7 ?_
  refine gf 6 c7 ?_
  refine gf 6 c7 ?_
  refine gf 6 c7 ?_
  refine gf 6 c7 ?_
  refine gf 6 c7 ?_
  refine vl (Y.pickF _ c7 rfl rfl) ?_
  refine GO.nil ?_
  refine p2 (p2 (p2 (p2 (p2 (p2 ?_)))))
  exact hK8 _ _ l0 (Option.some.inj h).symm
 rintro _ S9 e10 rfl
 refine nt hK5 ?_
 refine G.cond _ rfl (fun c11 => ?_) (fun c11 => ?_)
 ·replace h := ite_t c11 h
  refine sr (fun _ hK12 => ?_)
  refine an ?_
  refine nt hK12 ?_
  refine G.ret ?_
  obtain rfl := Option.some.inj h
  exact hret _ _ _ _ 1 e10 (.cons (.tmp rfl) .nil) rfl rfl
 replace h := ite_f c11 h
 refine sk hK4 ?_
 refine sr (fun _ hK13 => ?_)
 refine vl (Y.fieldAddr 2 rfl fld155_2 rfl) ?_
 refine lv 0 2 one3 ?_
 refine an ?_
 refine nt hK13 ?_
 refine G.ret ?_
 obtain rfl := Option.some.inj h
 exact hret _ _ _ _ 1 e10 (.cons (.tmp rfl) .nil) rfl rfl

/- chirograph/chirographref02.ReadFlag -/
def r02_ReadFlag  (a0 : Rd) : Option (Rd × Bool) :=
 ((r02_Take a0 (1 : Int)).bind fun t7 => (if (t7.1.err != (0 : Int)) = true then some (t7.1, false) else ((req ((0 : Int) ≤ (0 : Int) ∧ (0 : Int) < lenI t7.2)).bind fun _ => (if (decide (1 < (getI t7.2 (0 : Int)))) = true then ((r02_Fail t7.1 (4 : Int)).bind fun t21 => some (t21, false)) else ((req ((0 : Int) ≤ (0 : Int) ∧ (0 : Int) < lenI t7.2)).bind fun _ => some (t7.1, ((getI t7.2 (0 : Int)) == 1)))))))

theorem r02_ReadFlag_ok {S : Hp} (a0 : Rd) {r : Rd × Bool} (h : r02_ReadFlag a0 = some r) : Fn Tryz.prog 171 [aggV [sV (strV a0.s), sV (.int .i64 a0.at_), sV (.int .i64 a0.err)]] S (fun v S' => v = .tuple #[aggV [sV (strV r.1.s), sV (.int .i64 r.1.at_), sV (.int .i64 r.1.err)], .bool r.2]) := by
 unfold r02_ReadFlag at h
 refine fo [.cell 2 155, .tmp 3] 23 Tryz.func171 Tryz.ntmps171 (fun o F Q hQ hN hret => ?_)
 refine sr (fun _ hK1 => ?_)
 refine st (OS.boxA (by decide) rfl (fun ad2 => ?_))
 refine st (OS.alloc _ (by decide) zero155 (fun ad4 => ?_))
 refine an ?_
 refine nt hK1 ?_
 refine sr (fun _ hK6 => ?_)
 refine lb 1 0 3 [sV (strV a0.s), sV (.int .i64 a0.at_), sV (.int .i64 a0.err)] row155 ?_
 obtain ⟨t7, wt7, h⟩ := bind_some' h
 refine st (cl fb169 (r02_Take_ok a0 (1 : Int) wt7) (fun v8 S9 e10 z11 => ?_))
 obtain rfl := z11
 refine mv ?_
 refine vl (Y.extract _ rfl rfl) ?_
 refine vl (Y.extract _ rfl rfl) ?_
 refine sf 1 3 [sV (strV t7.1.s), sV (.int .i64 t7.1.at_), sV (.int .i64 t7.1.err)] (aggV_cells _) (oI (oI (oI oN))) size155 ?_
 refine an ?_
 refine nt hK6 ?_
 refine G.seq (fun _ hK12 => ?_)
 refine sr (fun _ hK13 => ?_)
 refine vl (Y.fieldAddr 2 rfl fld155_2 rfl) ?_
 refine lv 1 2 one3 ?_
 refine vl (Y.neI rfl rfl) ?_
 refine nt hK13 ?_
 refine G.cond _ rfl (fun c14 => ?_) (fun c14 => ?_)
 ·replace h := ite_t c14 h
  refine sr (fun _ hK15 => ?_)
  refine lb 1 0 3 [sV (strV t7.1.s), sV (.int .i64 t7.1.at_), sV (.int .i64 t7.1.err)] row155 ?_
  refine sf 0 3 [sV (strV t7.1.s), sV (.int .i64 t7.1.at_), sV (.int .i64 t7.1.err)] (aggV_cells _) (oI (oI (oI oN))) size155 ?_
  refine an ?_
  refine nt hK15 ?_
  refine G.ret ?_
  obtain rfl := Option.some.inj h
  exact hret _ _ _ _ 2 e10 (.cons (.row (k := 0) rfl rfl row155 (by kernel_rfl)) (.cons (.tmp rfl) .nil)) rfl rfl
 replace h := ite_f c14 h
 refine sk hK12 ?_
 refine G.seq (fun _ hK16 => ?_)
 refine sr (fun _ hK17 => ?_)
 refine mv ?_
 obtain ⟨g18, h⟩ := req_bind h
 refine vl (Y.indexStr rfl rfl sty9 g18) ?_
 refine vl (Y.gtr_u8 (a := (getI t7.2 (0 : Int))) (b := 1) rfl rfl) ?_
 refine nt hK17 ?_
 refine G.cond _ rfl (fun c19 => ?_) (fun c19 => ?_)
 ·replace h := ite_t c19 h
  refine sr (fun _ hK20 => ?_)
  refine lb 1 0 3 [sV (strV t7.1.s), sV (.int .i64 t7.1.at_), sV (.int .i64 t7.1.err)] row155 ?_
  obtain ⟨t21, wt21, h⟩ := bind_some' h
  refine st (cl fb170 (r02_Fail_ok t7.1 (4 : Int) wt21) (fun v22 S23 e24 z25 => ?_))
  obtain rfl := z25
  refine sf 0 3 [sV (strV t21.s), sV (.int .i64 t21.at_), sV (.int .i64 t21.err)] (aggV_cells _) (oI (oI (oI oN))) size155 ?_
  refine an ?_
  refine nt hK20 ?_
  refine G.ret ?_
  obtain rfl := Option.some.inj h
  exact hret _ _ _ _ 2 (l2 e10 e24) (.cons (.row (k := 0) rfl rfl row155 (by kernel_rfl)) (.cons (.tmp rfl) .nil)) rfl rfl
 replace h := ite_f c19 h
 refine sk hK16 ?_
 refine G.seq (fun _ hK26 => ?_)
 obtain ⟨g27, h⟩ := req_bind h
 refine G.drawS 4 _ ((fun _ => True) :: Blk ad2 [sV (strV t7.1.s), sV (.int .i64 t7.1.at_), sV (.int .i64 t7.1.err)] :: F) mixed .refl (by kernel_rfl) ?_
 refine tx 0 rfl (.lose .refl) hQ (fun S₀ X₀ e₀ => Y.loadB (X₀.length + 1)  0 3 [sV (strV t7.1.s), sV (.int .i64 t7.1.at_), sV (.int .i64 t7.1.err)] rfl (Lk rfl) rfl rfl row155 (by kernel_rfl)) ?_
 refine tx 1 rfl (.lose .refl) hQ (fun _ _ _ => Y.move rfl) ?_
 refine tx 2 rfl (.lose .refl) hQ (fun _ _ _ => Y.indexStr rfl rfl sty9 g27) ?_
 refine tx 3 rfl (.lose .refl) hQ (fun _ _ _ => Y.eql_u8 (a := (getI t7.2 (0 : Int))) (b := 1) rfl rfl) ?_
 refine g1 4 ?_
 refine n2 rfl (OS.store 0 0 3 [sV (strV t7.1.s), sV (.int .i64 t7.1.at_), sV (.int .i64 t7.1.err)] (r := [sV (strV t7.1.s), sV (.int .i64 t7.1.at_), sV (.int .i64 t7.1.err)]) rfl rfl (aggV_cells _) (oI (oI (oI oN))) rfl rfl size155 (by kernel_rfl) (by kernel_rfl) (by kernel_rfl) ⟨⟨[], (.lose .refl), l0⟩, ?_⟩)
 refine tx 5 rfl (.lose .refl) hQ (fun _ _ _ => Y.assign rfl) ?_
 refine dn ?_
 refine GX.then hK26 ?_
 refine G.ret ?_
 obtain rfl := Option.some.inj h
 exact hret _ _ _ _ 2 e10 (.cons (.row (k := 0) rfl rfl row155 (by kernel_rfl)) (.cons (.tmp rfl) .nil)) rfl rfl

/- chirograph/chirographref02.Number -/
def r02_Number_s1  : (Int × Str) → Option ((Int × Str) ⊕ (Int × Str))
 | (x7, x8) => (if (decide ((0 : Int) < x7)) = true then ((req (List.length ([(u8I (Int.tmod x7 (256 : Int)))] : List UInt8) + List.length x8 ≤ LIM)).bind fun _ => some (.inl ((wrap64 (Int.tdiv x7 (256 : Int))), (([(u8I (Int.tmod x7 (256 : Int)))] : List UInt8) ++ x8)))) else some (.inr (x7, x8)))

def r02_Number  (a0 : Int) : Option Str :=
 ((iter (r02_Number_s1) (a0, ([] : Str))).bind fun b10 => (match b10 with | (x7, x8) => ((req (List.length ([(u8I (lenI x8))] : List UInt8) + List.length x8 ≤ LIM)).bind fun _ => some (([(u8I (lenI x8))] : List UInt8) ++ x8))))

theorem r02_Number_ok {S : Hp} (a0 : Int) {r : Str} (h : r02_Number a0 = some r) : Fn Tryz.prog 107 [.int .i64 a0] S (fun v S' => v = strV r) := by
 unfold r02_Number at h
 refine fo [.tmp 2] 24 Tryz.func107 Tryz.ntmps107 (fun o F Q hQ hN hret => ?_)
 refine sr (fun _ hK1 => ?_)
 refine an ?_
 refine nt hK1 ?_
 refine sr (fun _ hK2 => ?_)
 refine an ?_
 refine nt hK2 ?_
 refine G.seq (fun _ hK3 => ?_)
 refine sr (fun _ hK4 => ?_)
 refine mv ?_
 refine an ?_
 refine nt hK4 ?_
 refine G.block ?_
 obtain ⟨b10, wb10, ho11⟩ := bind_some' h
 refine G.keep [4, 3] rfl ?_
 refine G.loopK (r02_Number_s1) (fun s₀ E' S' L' => match s₀ with | (x7, x8) => S.le S' ∧ E' = [(4, .int .i64 x7), (3, strV x8)] ∧ F = L') b10 0 (fun E₀ S₀ L₀ => ∃ (x7 : Int) (x8 : Str), S.le S₀ ∧ b10 = (x7, x8) ∧ E₀ = [(3, strV x8)] ∧ F = L₀) wb10 ?_ ?_ ?_
 ·rintro _ S19 _ ⟨x7, x8, e20, rfl, rfl, rfl⟩
  have h := ho11; clear ho11
  try dsimp only at h
  refine GX.exit_block ?_
  refine GX.then hK3 ?_
  refine sr (fun _ hK21 => ?_)
  refine mv ?_
  refine vl (Y.lenStr (v := x8) rfl sty9) ?_
  refine vl (Y.cv_i64_u8 (a := (lenI x8)) rfl int3 int5) ?_
  refine bs ([(u8I (lenI x8))] : List UInt8) el102 (fun v22 => ?_)
  refine vl (Y.convBS rfl (Rw.bsrc (k := 0 ) rfl) byt102 sty9) ?_
  refine mv ?_
  obtain ⟨g24, h⟩ := req_bind h
  refine vl (Y.addStr (a := ([(u8I (lenI x8))] : List UInt8)) (b := x8) rfl rfl g24) ?_
  refine an ?_
  refine nt hK21 ?_
  refine G.ret ?_
  obtain rfl := Option.some.inj h
  exact hret _ _ _ _ 1 e20 (.cons (.tmp rfl) .nil) rfl rfl
 ·exact ⟨Hp.le_refl _, rfl, rfl⟩
 rintro ⟨x7, x8⟩ _ S5 _ ⟨e6, rfl, rfl⟩ out1 h hf1 K1 hK1 hx9
 rw [r02_Number_s1] at h
 refine G.seq (fun _ hK12 => ?_)
 refine sr (fun _ hK13 => ?_)
 refine mv ?_
 refine vl (Y.gtI rfl rfl) ?_
 refine nt hK13 ?_
 refine G.cond _ rfl (fun c14 => ?_) (fun c14 => ?_)
 ·replace h := ite_t c14 h
  refine sk hK12 ?_
  refine G.seq (fun _ hK15 => ?_)
  refine G.block ?_
  refine G.region ?_
  refine mv ?_
  refine vl (Y.remI rfl rfl (by decide)) ?_
  refine vl (Y.cv_i64_u8 (a := (Int.tmod x7 (256 : Int))) rfl int3 int5) ?_
  refine bs ([(u8I (Int.tmod x7 (256 : Int)))] : List UInt8) el102 (fun v16 => ?_)
  refine vl (Y.convBS rfl (Rw.bsrc (k := 0 ) rfl) byt102 sty9) ?_
  refine mv ?_
  obtain ⟨g18, h⟩ := req_bind h
  refine vl (Y.addStr (a := ([(u8I (Int.tmod x7 (256 : Int)))] : List UInt8)) (b := x8) rfl rfl g18) ?_
  refine an ?_
  refine GO.nil ?_
  refine GX.normal_block ?_
  refine GX.then hK15 ?_
  refine G.region ?_
  refine mv ?_
  refine vl (Y.quoI rfl rfl (by decide)) ?_
  refine an ?_
  refine GO.nil ?_
  obtain rfl := Option.some.inj h
  refine GX.keep [4, 3] rfl ?_
  refine GX.less 1 rfl ?_
  exact hK1 _ _ _ _ rfl ⟨e6, rfl, rfl⟩
 replace h := ite_f c14 h
 refine G.exit ?_
 refine GX.exit_then ?_
 obtain rfl := Option.some.inj h
 refine GX.keep [3] rfl ?_
 exact hx9 _ _ _ ⟨_, _, e6, (hf1 _ rfl).symm, rfl, rfl⟩

/- chirograph/chirographref02.Text -/
def r02_Text  (a0 : Str) : Option Str :=
 ((r02_Number (lenI a0)).bind fun t3 => ((req (List.length t3 + List.length a0 ≤ LIM)).bind fun _ => some (t3 ++ a0)))

theorem r02_Text_ok {S : Hp} (a0 : Str) {r : Str} (h : r02_Text a0 = some r) : Fn Tryz.prog 108 [strV a0] S (fun v S' => v = strV r) := by
 unfold r02_Text at h
 refine fo [.tmp 2] 8 Tryz.func108 Tryz.ntmps108 (fun o F Q hQ hN hret => ?_)
 refine sr (fun _ hK1 => ?_)
 refine an ?_
 refine nt hK1 ?_
 refine sr (fun _ hK2 => ?_)
 refine mv ?_
 refine vl (Y.lenStr (v := a0) rfl sty9) ?_
 obtain ⟨t3, wt3, h⟩ := bind_some' h
 refine st (cl fb107 (r02_Number_ok (lenI a0) wt3) (fun v4 S5 e6 z7 => ?_))
 obtain rfl := z7
 refine mv ?_
 obtain ⟨g8, h⟩ := req_bind h
 refine vl (Y.addStr (a := t3) (b := a0) rfl rfl g8) ?_
 refine an ?_
 refine nt hK2 ?_
 refine G.ret ?_
 obtain rfl := Option.some.inj h
 exact hret _ _ _ _ 0 e6 (.cons (.tmp rfl) .nil) rfl rfl

/- chirograph/chirographref02.Flag -/
def r02_Flag  (a0 : Bool) : Option Str :=
 (if a0 = true then some ([1] : Str) else some ([0] : Str))

theorem r02_Flag_ok {S : Hp} (a0 : Bool) {r : Str} (h : r02_Flag a0 = some r) : Fn Tryz.prog 110 [.bool a0] S (fun v S' => v = strV r) := by
 unfold r02_Flag at h
 refine fo [.tmp 2] 4 Tryz.func110 Tryz.ntmps110 (fun o F Q hQ hN hret => ?_)
 refine sr (fun _ hK1 => ?_)
 refine an ?_
 refine nt hK1 ?_
 refine G.seq (fun _ hK2 => ?_)
 refine sr (fun _ hK3 => ?_)
 refine mv ?_
 refine nt hK3 ?_
 refine G.cond _ rfl (fun c4 => ?_) (fun c4 => ?_)
 ·replace h := ite_t c4 h
  refine sr (fun _ hK5 => ?_)
  refine an ?_
  refine nt hK5 ?_
  refine G.ret ?_
  obtain rfl := Option.some.inj h
  exact hret _ _ _ _ 0 l0 (.cons (.tmp rfl) .nil) rfl rfl
 replace h := ite_f c4 h
 refine sk hK2 ?_
 refine sr (fun _ hK6 => ?_)
 refine an ?_
 refine nt hK6 ?_
 refine G.ret ?_
 obtain rfl := Option.some.inj h
 exact hret _ _ _ _ 0 l0 (.cons (.tmp rfl) .nil) rfl rfl

/- chirograph/chirographref02.Label -/
def r02_Label  (a0 : Lab) : Option Str :=
 some a0.toList

theorem r02_Label_ok {S : Hp} (a0 : Lab) {r : Str} (h : r02_Label a0 = some r) : Fn Tryz.prog 179 [aggV [sL a0]] S (fun v S' => v = strV r) := by
 unfold r02_Label at h
 refine fo [.tmp 2] 5 Tryz.func179 Tryz.ntmps179 (fun o F Q hQ hN hret => ?_)
 refine sr (fun _ hK1 => ?_)
 refine st (OS.boxA (by decide) rfl (fun ad2 => ?_))
 refine an ?_
 refine nt hK1 ?_
 refine sr (fun _ hK4 => ?_)
 refine vl (Y.sliceArr rfl arr23 (by decide)) ?_
 refine vl (Y.convBS rfl (Blk.bsrcLab (k := 0 ) (i := 0) rfl rfl rfl) byt102 sty9) ?_
 refine an ?_
 refine nt hK4 ?_
 refine G.ret ?_
 obtain rfl := Option.some.inj h
 exact hret _ _ _ _ 1 l0 (.cons (.tmp rfl) .nil) rfl rfl

end
end Go.Ch
end
section
/- Functions of the program: what each comes to, proved. -/
set_option linter.unusedVariables false
set_option linter.unusedSimpArgs false
set_option maxRecDepth 100000
set_option maxHeartbeats 4000000
namespace Go.Ch
open Go.RowKit (wrap64)
open Go.Proofs
noncomputable section
/- chirograph/chirographref15.Eight -/
/- chirograph/chirographref15.LeafBytes -/
/- chirograph/chirographref15.Good -/
def r15_Good  (a0 : Item) : Option Bool :=
 ((r01_Good a0.len a0.bits).bind fun t5 => ((if t5 = true then some (decide ((0 : Int) ≤ a0.at_)) else some false).bind fun b10 => ((if b10 = true then some (decide (a0.at_ ≤ (1073741824 : Int))) else some false).bind fun b15 => some b15)))

theorem r15_Good_ok {S : Hp} (a0 : Item) {r : Bool} (h : r15_Good a0 = some r) : Fn Tryz.prog 100 [aggV [sV (.int .i64 a0.len), sL a0.bits, sL a0.sum, sV (.int .i64 a0.at_)]] S (fun v S' => v = .bool r) := by
 unfold r15_Good at h
 refine fo [.tmp 2] 18 Tryz.func100 Tryz.ntmps100 (fun o F Q hQ hN hret => ?_)
 refine sr (fun _ hK1 => ?_)
 refine st (OS.boxA (by decide) rfl (fun ad2 => ?_))
 refine an ?_
 refine nt hK1 ?_
 refine sr (fun _ hK4 => ?_)
 refine vl (Y.fieldAddr 0 rfl fld45_0 rfl) ?_
 refine lv 0 0 one3 ?_
 refine vl (Y.fieldAddr 1 rfl fld45_1 rfl) ?_
 refine lb 0 1 1 [sL a0.bits] row23 ?_
 obtain ⟨t5, wt5, h⟩ := bind_some' h
 refine st (cl fb174 (r01_Good_ok a0.len a0.bits wt5) (fun v6 S7 e8 z9 => ?_))
 obtain rfl := z9
 refine mv ?_
 obtain ⟨b10, wb10, h⟩ := bind_some' h
 refine GO.joinB 4 12 (b10 = ·) (fun K12 hK12 => ?_) ?_
 ·replace h := wb10
  rcases Bool.eq_false_or_eq_true t5 with c11 | c11
  ·replace h := ite_t c11 h
   refine gv 8 c11 (Y.fieldAddr 65 rfl fld45_3 rfl) ?_
   refine gv 8 c11 (Y.loadV 0  3 _ rfl rfl rfl rfl one3) ?_
   refine gv 8 c11 (Y.geI rfl rfl) ?_
   refine vl (Y.pickT _ c11 rfl rfl) ?_
   refine GO.nil ?_
   refine p2 (p2 (p2 ?_))
   exact hK12 _ _ l0 (Option.some.inj h).symm
  replace h := ite_f c11 h
  refine gf 8 c11 ?_
  refine gf 8 c11 ?_
  refine gf 8 c11 ?_
  refine vl (Y.pickF _ c11 rfl rfl) ?_
  refine GO.nil ?_
  refine p2 (p2 (p2 ?_))
  exact hK12 _ _ l0 (Option.some.inj h).symm
 rintro _ S13 e14 rfl
 refine mv ?_
 obtain ⟨b15, wb15, h⟩ := bind_some' h
 refine GO.joinB 4 17 (b15 = ·) (fun K17 hK17 => ?_) ?_
 ·replace h := wb15
  rcases Bool.eq_false_or_eq_true b10 with c16 | c16
  ·replace h := ite_t c16 h
   refine gv 13 c16 (Y.fieldAddr 65 rfl fld45_3 rfl) ?_
   refine gv 13 c16 (Y.loadV 0  3 _ rfl rfl rfl rfl one3) ?_
   refine gv 13 c16 (Y.leI rfl rfl) ?_
   refine vl (Y.pickT _ c16 rfl rfl) ?_
   refine GO.nil ?_
   refine p2 (p2 (p2 ?_))
   exact hK17 _ _ l0 (Option.some.inj h).symm
  replace h := ite_f c16 h
  refine gf 13 c16 ?_
  refine gf 13 c16 ?_
  refine gf 13 c16 ?_
  refine vl (Y.pickF _ c16 rfl rfl) ?_
  refine GO.nil ?_
  refine p2 (p2 (p2 ?_))
  exact hK17 _ _ l0 (Option.some.inj h).symm
 rintro _ S18 e19 rfl
 refine an ?_
 refine nt hK4 ?_
 refine G.ret ?_
 obtain rfl := Option.some.inj h
 exact hret _ _ _ _ 1 (l2 e8 (l2 e14 e19)) (.cons (.tmp rfl) .nil) rfl rfl

/- chirograph/chirographref15.Check -/
def r15_Check  (a0 : Item) (a1 : Item) : Option Int :=
 ((r15_Good a0).bind fun t8 => ((if (!t8) = true then some true else ((r15_Good a1).bind fun t16 => some (!t16))).bind fun b13 => (if b13 = true then some (1 : Int) else ((r01_Common a0.bits a1.bits).bind fun t26 => ((if (decide (a0.len ≤ t26)) = true then some true else some (decide (a1.len ≤ t26))).bind fun b33 => ((if b33 = true then some true else ((r01_Order a0.bits a1.bits).bind fun t41 => some (t41 != (-1 : Int)))).bind fun b38 => (if b38 = true then some (3 : Int) else some (0 : Int))))))))

theorem r15_Check_ok {S : Hp} (a0 : Item) (a1 : Item) {r : Int} (h : r15_Check a0 a1 = some r) : Fn Tryz.prog 58 [aggV [sV (.int .i64 a0.len), sL a0.bits, sL a0.sum, sV (.int .i64 a0.at_)], aggV [sV (.int .i64 a1.len), sL a1.bits, sL a1.sum, sV (.int .i64 a1.at_)]] S (fun v S' => v = .int .i64 r) := by
 unfold r15_Check at h
 refine fo [.tmp 4] 37 Tryz.func58 Tryz.ntmps58 (fun o F Q hQ hN hret => ?_)
 refine sr (fun _ hK1 => ?_)
 refine st (OS.boxA (by decide) rfl (fun ad2 => ?_))
 refine st (OS.boxA (by decide) rfl (fun ad4 => ?_))
 refine an ?_
 refine nt hK1 ?_
 refine G.seq (fun _ hK6 => ?_)
 refine sr (fun _ hK7 => ?_)
 refine lb 1 0 4 [sV (.int .i64 a0.len), sL a0.bits, sL a0.sum, sV (.int .i64 a0.at_)] row45 ?_
 obtain ⟨t8, wt8, h⟩ := bind_some' h
 refine st (cl fb100 (r15_Good_ok a0 wt8) (fun v9 S10 e11 z12 => ?_))
 obtain rfl := z12
 refine vl (Y.not rfl) ?_
 refine mv ?_
 obtain ⟨b13, wb13, h⟩ := bind_some' h
 refine GO.joinB 4 13 (b13 = ·) (fun K15 hK15 => ?_) ?_
 ·replace h := wb13
  rcases Bool.eq_false_or_eq_true (!t8) with c14 | c14
  ·replace h := ite_t c14 h
   refine gf 9 c14 ?_
   refine gf 9 c14 ?_
   refine gf 9 c14 ?_
   refine vl (Y.pickT _ c14 rfl rfl) ?_
   refine GO.nil ?_
   refine p2 (p2 (p2 ?_))
   exact hK15 _ _ l0 (Option.some.inj h).symm
  replace h := ite_f c14 h
  refine gv 9 c14 (Y.loadB 0  0 4 [sV (.int .i64 a1.len), sL a1.bits, sL a1.sum, sV (.int .i64 a1.at_)] rfl rfl rfl rfl row45 (by kernel_rfl)) ?_
  obtain ⟨t16, wt16, h⟩ := bind_some' h
  refine GO.onS 9 rfl (by decide) rfl c14 (cl fb100 (r15_Good_ok a1 wt16) (fun v17 S18 e19 z20 => ?_))
  obtain rfl := z20
  refine gv 9 c14 (Y.not rfl) ?_
  refine vl (Y.pickF _ c14 rfl rfl) ?_
  refine GO.nil ?_
  refine p2 (p2 (p2 ?_))
  exact hK15 _ _ e19 (Option.some.inj h).symm
 rintro _ S21 e22 rfl
 refine nt hK7 ?_
 refine G.cond _ rfl (fun c23 => ?_) (fun c23 => ?_)
 ·replace h := ite_t c23 h
  refine sr (fun _ hK24 => ?_)
  refine an ?_
  refine nt hK24 ?_
  refine G.ret ?_
  obtain rfl := Option.some.inj h
  exact hret _ _ _ _ 2 (l2 e11 e22) (.cons (.tmp rfl) .nil) rfl rfl
 replace h := ite_f c23 h
 refine sk hK6 ?_
 refine sr (fun _ hK25 => ?_)
 refine vl (Y.fieldAddr 1 rfl fld45_1 rfl) ?_
 refine lb 1 1 1 [sL a0.bits] row23 ?_
 refine vl (Y.fieldAddr 1 rfl fld45_1 rfl) ?_
 refine lb 0 1 1 [sL a1.bits] row23 ?_
 obtain ⟨t26, wt26, h⟩ := bind_some' h
 refine st (cl fb135 (r01_Common_ok a0.bits a1.bits wt26) (fun v27 S28 e29 z30 => ?_))
 obtain rfl := z30
 refine an ?_
 refine nt hK25 ?_
 refine G.seq (fun _ hK31 => ?_)
 refine sr (fun _ hK32 => ?_)
 refine mv ?_
 refine vl (Y.fieldAddr 0 rfl fld45_0 rfl) ?_
 refine lv 1 0 one3 ?_
 refine vl (Y.geI rfl rfl) ?_
 refine mv ?_
 obtain ⟨b33, wb33, h⟩ := bind_some' h
 refine GO.joinB 5 28 (b33 = ·) (fun K35 hK35 => ?_) ?_
 ·replace h := wb33
  rcases Bool.eq_false_or_eq_true (decide (a0.len ≤ t26)) with c34 | c34
  ·replace h := ite_t c34 h
   refine gf 23 c34 ?_
   refine gf 23 c34 ?_
   refine gf 23 c34 ?_
   refine gf 23 c34 ?_
   refine vl (Y.pickT _ c34 rfl rfl) ?_
   refine GO.nil ?_
   refine p2 (p2 (p2 (p2 ?_)))
   exact hK35 _ _ l0 (Option.some.inj h).symm
  replace h := ite_f c34 h
  refine gv 23 c34 (Y.move rfl) ?_
  refine gv 23 c34 (Y.fieldAddr 0 rfl fld45_0 rfl) ?_
  refine gv 23 c34 (Y.loadV 0  0 _ rfl rfl rfl rfl one3) ?_
  refine gv 23 c34 (Y.geI rfl rfl) ?_
  refine vl (Y.pickF _ c34 rfl rfl) ?_
  refine GO.nil ?_
  refine p2 (p2 (p2 (p2 ?_)))
  exact hK35 _ _ l0 (Option.some.inj h).symm
 rintro _ S36 e37 rfl
 refine mv ?_
 obtain ⟨b38, wb38, h⟩ := bind_some' h
 refine GO.joinB 7 36 (b38 = ·) (fun K40 hK40 => ?_) ?_
 ·replace h := wb38
  rcases Bool.eq_false_or_eq_true b33 with c39 | c39
  ·replace h := ite_t c39 h
   refine gf 29 c39 ?_
   refine gf 29 c39 ?_
   refine gf 29 c39 ?_
   refine gf 29 c39 ?_
   refine gf 29 c39 ?_
   refine gf 29 c39 ?_
   refine vl (Y.pickT _ c39 rfl rfl) ?_
   refine GO.nil ?_
   refine p2 (p2 (p2 (p2 (p2 (p2 ?_)))))
   exact hK40 _ _ l0 (Option.some.inj h).symm
  replace h := ite_f c39 h
  refine gv 29 c39 (Y.fieldAddr 1 rfl fld45_1 rfl) ?_
  refine gv 29 c39 (Y.loadB 1  1 1 [sL a0.bits] rfl rfl rfl rfl row23 (by kernel_rfl)) ?_
  refine gv 29 c39 (Y.fieldAddr 1 rfl fld45_1 rfl) ?_
  refine gv 29 c39 (Y.loadB 0  1 1 [sL a1.bits] rfl rfl rfl rfl row23 (by kernel_rfl)) ?_
  obtain ⟨t41, wt41, h⟩ := bind_some' h
  refine GO.onS 29 rfl (by decide) rfl c39 (cl fb62 (r01_Order_ok a0.bits a1.bits wt41) (fun v42 S43 e44 z45 => ?_))
  obtain rfl := z45
  refine gv 29 c39 (Y.neI rfl rfl) ?_
  refine vl (Y.pickF _ c39 rfl rfl) ?_
  refine GO.nil ?_
  refine p2 (p2 (p2 (p2 (p2 (p2 ?_)))))
  exact hK40 _ _ e44 (Option.some.inj h).symm
 rintro _ S46 e47 rfl
 refine nt hK32 ?_
 refine G.cond _ rfl (fun c48 => ?_) (fun c48 => ?_)
 ·replace h := ite_t c48 h
  refine sr (fun _ hK49 => ?_)
  refine an ?_
  refine nt hK49 ?_
  refine G.ret ?_
  obtain rfl := Option.some.inj h
  exact hret _ _ _ _ 2 (l2 e11 (l2 e22 (l2 e29 (l2 e37 e47)))) (.cons (.tmp rfl) .nil) rfl rfl
 replace h := ite_f c48 h
 refine sk hK31 ?_
 refine sr (fun _ hK50 => ?_)
 refine an ?_
 refine nt hK50 ?_
 refine G.ret ?_
 obtain rfl := Option.some.inj h
 exact hret _ _ _ _ 2 (l2 e11 (l2 e22 (l2 e29 (l2 e37 e47)))) (.cons (.tmp rfl) .nil) rfl rfl

/- chirograph/chirographref15.Text -/
/- chirograph/chirographref15.InnerBytes -/
/- chirograph/chirographref15.ReadItem -/
def r15_ReadItem  (a0 : Rd) : Option (Rd × Item) :=
 ((r02_ReadNumber a0).bind fun t9 => ((r02_ReadLabel t9.1).bind fun t17 => ((r02_ReadLabel t17.1).bind fun t27 => ((r02_ReadNumber t27.1).bind fun t37 => some (t37.1, (⟨t9.2, t17.2, t27.2, t37.2⟩ : Item))))))

theorem r15_ReadItem_ok {S : Hp} (a0 : Rd) {r : Rd × Item} (h : r15_ReadItem a0 = some r) : Fn Tryz.prog 99 [aggV [sV (strV a0.s), sV (.int .i64 a0.at_), sV (.int .i64 a0.err)]] S (fun v S' => v = .tuple #[aggV [sV (strV r.1.s), sV (.int .i64 r.1.at_), sV (.int .i64 r.1.err)], aggV [sV (.int .i64 r.2.len), sL r.2.bits, sL r.2.sum, sV (.int .i64 r.2.at_)]]) := by
 unfold r15_ReadItem at h
 refine fo [.cell 2 155, .cell 3 45] 38 Tryz.func99 Tryz.ntmps99 (fun o F Q hQ hN hret => ?_)
 refine sr (fun _ hK1 => ?_)
 refine st (OS.boxA (by decide) rfl (fun ad2 => ?_))
 refine st (OS.alloc _ (by decide) zero155 (fun ad4 => ?_))
 refine st (OS.alloc _ (by decide) zero45 (fun ad6 => ?_))
 refine nt hK1 ?_
 refine sr (fun _ hK8 => ?_)
 refine lb 2 0 3 [sV (strV a0.s), sV (.int .i64 a0.at_), sV (.int .i64 a0.err)] row155 ?_
 obtain ⟨t9, wt9, h⟩ := bind_some' h
 refine st (cl fb95 (r02_ReadNumber_ok a0 wt9) (fun v10 S11 e12 z13 => ?_))
 obtain rfl := z13
 refine mv ?_
 refine vl (Y.extract _ rfl rfl) ?_
 refine vl (Y.extract _ rfl rfl) ?_
 refine st (OS.alloc _ (by decide) zero155 (fun ad14 => ?_))
 refine sf 0 3 [sV (strV t9.1.s), sV (.int .i64 t9.1.at_), sV (.int .i64 t9.1.err)] (aggV_cells _) (oI (oI (oI oN))) size155 ?_
 refine an ?_
 refine nt hK8 ?_
 refine sr (fun _ hK16 => ?_)
 refine lb 0 0 3 [sV (strV t9.1.s), sV (.int .i64 t9.1.at_), sV (.int .i64 t9.1.err)] row155 ?_
 obtain ⟨t17, wt17, h⟩ := bind_some' h
 refine st (cl fb173 (r02_ReadLabel_ok t9.1 wt17) (fun v18 S19 e20 z21 => ?_))
 obtain rfl := z21
 refine mv ?_
 refine vl (Y.extract _ rfl rfl) ?_
 refine vl (Y.extract _ rfl rfl) ?_
 refine st (OS.alloc _ (by decide) zero155 (fun ad22 => ?_))
 refine st (OS.alloc _ (by decide) zero23 (fun ad24 => ?_))
 refine sf 1 3 [sV (strV t17.1.s), sV (.int .i64 t17.1.at_), sV (.int .i64 t17.1.err)] (aggV_cells _) (oI (oI (oI oN))) size155 ?_
 refine sf 0 1 [sL t17.2] (aggV_cells _) (oL oN) size23 ?_
 refine nt hK16 ?_
 refine sr (fun _ hK26 => ?_)
 refine lb 1 0 3 [sV (strV t17.1.s), sV (.int .i64 t17.1.at_), sV (.int .i64 t17.1.err)] row155 ?_
 obtain ⟨t27, wt27, h⟩ := bind_some' h
 refine st (cl fb173 (r02_ReadLabel_ok t17.1 wt27) (fun v28 S29 e30 z31 => ?_))
 obtain rfl := z31
 refine mv ?_
 refine vl (Y.extract _ rfl rfl) ?_
 refine vl (Y.extract _ rfl rfl) ?_
 refine st (OS.alloc _ (by decide) zero155 (fun ad32 => ?_))
 refine st (OS.alloc _ (by decide) zero23 (fun ad34 => ?_))
 refine sf 1 3 [sV (strV t27.1.s), sV (.int .i64 t27.1.at_), sV (.int .i64 t27.1.err)] (aggV_cells _) (oI (oI (oI oN))) size155 ?_
 refine sf 0 1 [sL t27.2] (aggV_cells _) (oL oN) size23 ?_
 refine nt hK26 ?_
 refine sr (fun _ hK36 => ?_)
 refine lb 1 0 3 [sV (strV t27.1.s), sV (.int .i64 t27.1.at_), sV (.int .i64 t27.1.err)] row155 ?_
 obtain ⟨t37, wt37, h⟩ := bind_some' h
 refine st (cl fb95 (r02_ReadNumber_ok t27.1 wt37) (fun v38 S39 e40 z41 => ?_))
 obtain rfl := z41
 refine mv ?_
 refine vl (Y.extract _ rfl rfl) ?_
 refine vl (Y.extract _ rfl rfl) ?_
 refine st (OS.alloc _ (by decide) zero155 (fun ad42 => ?_))
 refine sf 0 3 [sV (strV t37.1.s), sV (.int .i64 t37.1.at_), sV (.int .i64 t37.1.err)] (aggV_cells _) (oI (oI (oI oN))) size155 ?_
 refine an ?_
 refine nt hK36 ?_
 refine G.seq (fun _ hK44 => ?_)
 refine G.drawS 6 _ (Blk ad42 [sV (strV t37.1.s), sV (.int .i64 t37.1.at_), sV (.int .i64 t37.1.err)] :: Blk ad34 [sL t27.2] :: Blk ad32 [sV (strV t27.1.s), sV (.int .i64 t27.1.at_), sV (.int .i64 t27.1.err)] :: Blk ad24 [sL t17.2] :: Blk ad22 [sV (strV t17.1.s), sV (.int .i64 t17.1.at_), sV (.int .i64 t17.1.err)] :: Blk ad14 [sV (strV t9.1.s), sV (.int .i64 t9.1.at_), sV (.int .i64 t9.1.err)] :: (fun _ => True) :: (fun _ => True) :: Blk ad2 [sV (strV a0.s), sV (.int .i64 a0.at_), sV (.int .i64 a0.err)] :: F) mixed .refl (by kernel_rfl) ?_
 refine tx 0 rfl (.same (.same (.same (.same (.same (.same (.lose (.lose .refl)))))))) hQ (fun S₀ X₀ e₀ => Y.loadB (X₀.length + 0)  0 3 [sV (strV t37.1.s), sV (.int .i64 t37.1.at_), sV (.int .i64 t37.1.err)] rfl (Lk rfl) rfl rfl row155 (by kernel_rfl)) ?_
 refine tx 1 rfl (.same (.same (.same (.same (.same (.same (.lose (.lose .refl)))))))) hQ (fun _ _ _ => Y.move rfl) ?_
 refine tx 2 rfl (.same (.same (.same (.same (.same (.same (.lose (.lose .refl)))))))) hQ (fun S₀ X₀ e₀ => Y.loadB (X₀.length + 3)  0 1 [sL t17.2] rfl (Lk rfl) rfl rfl row23 (by kernel_rfl)) ?_
 refine tx 3 rfl (.same (.same (.same (.same (.same (.same (.lose (.lose .refl)))))))) hQ (fun S₀ X₀ e₀ => Y.loadB (X₀.length + 1)  0 1 [sL t27.2] rfl (Lk rfl) rfl rfl row23 (by kernel_rfl)) ?_
 refine tx 4 rfl (.same (.same (.same (.same (.same (.same (.lose (.lose .refl)))))))) hQ (fun _ _ _ => Y.move rfl) ?_
 refine tx 5 rfl (.same (.same (.same (.same (.same (.same (.lose (.lose .refl)))))))) hQ (fun _ _ _ => Y.buildE _ [sV (.int .i64 t9.2), sL t17.2, sL t27.2, sV (.int .i64 t37.2)] strt45 zero45 rfl (.cons 0 1 [sV (.int .i64 t9.2)] rfl rfl rfl rfl rfl (.cons 1 1 [sL t17.2] rfl (aggV_cells _) rfl rfl rfl (.cons 2 1 [sL t27.2] rfl (aggV_cells _) rfl rfl rfl (.cons 3 1 [sV (.int .i64 t37.2)] rfl rfl rfl rfl rfl .nil))))) ?_
 refine g1 6 ?_
 refine n2 rfl (OS.store 7 0 3 [sV (strV t37.1.s), sV (.int .i64 t37.1.at_), sV (.int .i64 t37.1.err)] (r := [sV (strV t37.1.s), sV (.int .i64 t37.1.at_), sV (.int .i64 t37.1.err)]) rfl rfl (aggV_cells _) (oI (oI (oI oN))) rfl rfl size155 (by kernel_rfl) (by kernel_rfl) (by kernel_rfl) ⟨⟨[], (.same (.same (.same (.same (.same (.same (.lose (.lose .refl)))))))), l0⟩, ?_⟩)
 refine g1 7 ?_
 refine n2 rfl (OS.store 6 0 4 [sV (.int .i64 t9.2), sL t17.2, sL t27.2, sV (.int .i64 t37.2)] (r := [sV (.int .i64 t9.2), sL t17.2, sL t27.2, sV (.int .i64 t37.2)]) rfl rfl (aggV_cells _) (oI (oL (oL (oI oN)))) rfl rfl size45 (by kernel_rfl) (by kernel_rfl) (by kernel_rfl) ⟨⟨[], (.same (.same (.same (.same (.same (.same (.lose (.lose .refl)))))))), l0⟩, ?_⟩)
 refine dn ?_
 refine GX.then hK44 ?_
 refine G.ret ?_
 obtain rfl := Option.some.inj h
 exact hret _ _ _ _ 9 (l2 e12 (l2 e20 (l2 e30 e40))) (.cons (.row (k := 7) rfl rfl row155 (by kernel_rfl)) (.cons (.row (k := 6) rfl rfl row45 (by kernel_rfl)) .nil)) rfl rfl

/- chirograph/chirographref15.ReadLeaf -/
def r15_ReadLeaf  (a0 : Rd) : Option (Rd × Leaf) :=
 ((r02_ReadLabel a0).bind fun t9 => ((r02_ReadLabel t9.1).bind fun t19 => ((r02_ReadNumber t19.1).bind fun t29 => some (t29.1, (⟨t9.2, t19.2, t29.2⟩ : Leaf)))))

theorem r15_ReadLeaf_ok {S : Hp} (a0 : Rd) {r : Rd × Leaf} (h : r15_ReadLeaf a0 = some r) : Fn Tryz.prog 172 [aggV [sV (strV a0.s), sV (.int .i64 a0.at_), sV (.int .i64 a0.err)]] S (fun v S' => v = .tuple #[aggV [sV (strV r.1.s), sV (.int .i64 r.1.at_), sV (.int .i64 r.1.err)], aggV [sL r.2.label, sL r.2.value, sV (.int .i64 r.2.at_)]]) := by
 unfold r15_ReadLeaf at h
 refine fo [.cell 2 155, .cell 3 41] 30 Tryz.func172 Tryz.ntmps172 (fun o F Q hQ hN hret => ?_)
 refine sr (fun _ hK1 => ?_)
 refine st (OS.boxA (by decide) rfl (fun ad2 => ?_))
 refine st (OS.alloc _ (by decide) zero155 (fun ad4 => ?_))
 refine st (OS.alloc _ (by decide) zero41 (fun ad6 => ?_))
 refine nt hK1 ?_
 refine sr (fun _ hK8 => ?_)
 refine lb 2 0 3 [sV (strV a0.s), sV (.int .i64 a0.at_), sV (.int .i64 a0.err)] row155 ?_
 obtain ⟨t9, wt9, h⟩ := bind_some' h
 refine st (cl fb173 (r02_ReadLabel_ok a0 wt9) (fun v10 S11 e12 z13 => ?_))
 obtain rfl := z13
 refine mv ?_
 refine vl (Y.extract _ rfl rfl) ?_
 refine vl (Y.extract _ rfl rfl) ?_
 refine st (OS.alloc _ (by decide) zero155 (fun ad14 => ?_))
 refine st (OS.alloc _ (by decide) zero23 (fun ad16 => ?_))
 refine sf 1 3 [sV (strV t9.1.s), sV (.int .i64 t9.1.at_), sV (.int .i64 t9.1.err)] (aggV_cells _) (oI (oI (oI oN))) size155 ?_
 refine sf 0 1 [sL t9.2] (aggV_cells _) (oL oN) size23 ?_
 refine nt hK8 ?_
 refine sr (fun _ hK18 => ?_)
 refine lb 1 0 3 [sV (strV t9.1.s), sV (.int .i64 t9.1.at_), sV (.int .i64 t9.1.err)] row155 ?_
 obtain ⟨t19, wt19, h⟩ := bind_some' h
 refine st (cl fb173 (r02_ReadLabel_ok t9.1 wt19) (fun v20 S21 e22 z23 => ?_))
 obtain rfl := z23
 refine mv ?_
 refine vl (Y.extract _ rfl rfl) ?_
 refine vl (Y.extract _ rfl rfl) ?_
 refine st (OS.alloc _ (by decide) zero155 (fun ad24 => ?_))
 refine st (OS.alloc _ (by decide) zero23 (fun ad26 => ?_))
 refine sf 1 3 [sV (strV t19.1.s), sV (.int .i64 t19.1.at_), sV (.int .i64 t19.1.err)] (aggV_cells _) (oI (oI (oI oN))) size155 ?_
 refine sf 0 1 [sL t19.2] (aggV_cells _) (oL oN) size23 ?_
 refine nt hK18 ?_
 refine sr (fun _ hK28 => ?_)
 refine lb 1 0 3 [sV (strV t19.1.s), sV (.int .i64 t19.1.at_), sV (.int .i64 t19.1.err)] row155 ?_
 obtain ⟨t29, wt29, h⟩ := bind_some' h
 refine st (cl fb95 (r02_ReadNumber_ok t19.1 wt29) (fun v30 S31 e32 z33 => ?_))
 obtain rfl := z33
 refine mv ?_
 refine vl (Y.extract _ rfl rfl) ?_
 refine vl (Y.extract _ rfl rfl) ?_
 refine st (OS.alloc _ (by decide) zero155 (fun ad34 => ?_))
 refine sf 0 3 [sV (strV t29.1.s), sV (.int .i64 t29.1.at_), sV (.int .i64 t29.1.err)] (aggV_cells _) (oI (oI (oI oN))) size155 ?_
 refine an ?_
 refine nt hK28 ?_
 refine G.seq (fun _ hK36 => ?_)
 refine G.drawS 5 _ (Blk ad34 [sV (strV t29.1.s), sV (.int .i64 t29.1.at_), sV (.int .i64 t29.1.err)] :: Blk ad26 [sL t19.2] :: Blk ad24 [sV (strV t19.1.s), sV (.int .i64 t19.1.at_), sV (.int .i64 t19.1.err)] :: Blk ad16 [sL t9.2] :: Blk ad14 [sV (strV t9.1.s), sV (.int .i64 t9.1.at_), sV (.int .i64 t9.1.err)] :: (fun _ => True) :: (fun _ => True) :: Blk ad2 [sV (strV a0.s), sV (.int .i64 a0.at_), sV (.int .i64 a0.err)] :: F) mixed .refl (by kernel_rfl) ?_
 refine tx 0 rfl (.same (.same (.same (.same (.same (.lose (.lose .refl))))))) hQ (fun S₀ X₀ e₀ => Y.loadB (X₀.length + 0)  0 3 [sV (strV t29.1.s), sV (.int .i64 t29.1.at_), sV (.int .i64 t29.1.err)] rfl (Lk rfl) rfl rfl row155 (by kernel_rfl)) ?_
 refine tx 1 rfl (.same (.same (.same (.same (.same (.lose (.lose .refl))))))) hQ (fun S₀ X₀ e₀ => Y.loadB (X₀.length + 3)  0 1 [sL t9.2] rfl (Lk rfl) rfl rfl row23 (by kernel_rfl)) ?_
 refine tx 2 rfl (.same (.same (.same (.same (.same (.lose (.lose .refl))))))) hQ (fun S₀ X₀ e₀ => Y.loadB (X₀.length + 1)  0 1 [sL t19.2] rfl (Lk rfl) rfl rfl row23 (by kernel_rfl)) ?_
 refine tx 3 rfl (.same (.same (.same (.same (.same (.lose (.lose .refl))))))) hQ (fun _ _ _ => Y.move rfl) ?_
 refine tx 4 rfl (.same (.same (.same (.same (.same (.lose (.lose .refl))))))) hQ (fun _ _ _ => Y.buildE _ [sL t9.2, sL t19.2, sV (.int .i64 t29.2)] strt41 zero41 rfl (.cons 0 1 [sL t9.2] rfl (aggV_cells _) rfl rfl rfl (.cons 1 1 [sL t19.2] rfl (aggV_cells _) rfl rfl rfl (.cons 2 1 [sV (.int .i64 t29.2)] rfl rfl rfl rfl rfl .nil)))) ?_
 refine g1 5 ?_
 refine n2 rfl (OS.store 6 0 3 [sV (strV t29.1.s), sV (.int .i64 t29.1.at_), sV (.int .i64 t29.1.err)] (r := [sV (strV t29.1.s), sV (.int .i64 t29.1.at_), sV (.int .i64 t29.1.err)]) rfl rfl (aggV_cells _) (oI (oI (oI oN))) rfl rfl size155 (by kernel_rfl) (by kernel_rfl) (by kernel_rfl) ⟨⟨[], (.same (.same (.same (.same (.same (.lose (.lose .refl))))))), l0⟩, ?_⟩)
 refine g1 6 ?_
 refine n2 rfl (OS.store 5 0 3 [sL t9.2, sL t19.2, sV (.int .i64 t29.2)] (r := [sL t9.2, sL t19.2, sV (.int .i64 t29.2)]) rfl rfl (aggV_cells _) (oL (oL (oI oN))) rfl rfl size41 (by kernel_rfl) (by kernel_rfl) (by kernel_rfl) ⟨⟨[], (.same (.same (.same (.same (.same (.lose (.lose .refl))))))), l0⟩, ?_⟩)
 refine dn ?_
 refine GX.then hK36 ?_
 refine G.ret ?_
 obtain rfl := Option.some.inj h
 exact hret _ _ _ _ 8 (l2 e12 (l2 e22 e32)) (.cons (.row (k := 6) rfl rfl row155 (by kernel_rfl)) (.cons (.row (k := 5) rfl rfl row41 (by kernel_rfl)) .nil)) rfl rfl

end
end Go.Ch
end
section
/- Functions of the program: what each comes to, proved. -/
set_option linter.unusedVariables false
set_option linter.unusedSimpArgs false
set_option maxRecDepth 100000
set_option maxHeartbeats 4000000
namespace Go.Ch
open Go.RowKit (wrap64)
open Go.Proofs
noncomputable section
/- chirograph/chirographref03.Sum -/
def r03_Sum_s3 (x59 : (Vector UInt32 8)) : (Int × (Vector UInt32 8)) → Option ((Int × (Vector UInt32 8)) ⊕ (Int × (Vector UInt32 8)))
 | (x169, x170) => (if (decide (x169 < (8 : Int))) = true then ((req ((0 : Int) ≤ x169 ∧ x169 < (8 : Nat))).bind fun _ => ((req ((0 : Int) ≤ x169 ∧ x169 < (8 : Nat))).bind fun _ => ((req ((0 : Int) ≤ x169 ∧ x169 < (8 : Nat))).bind fun _ => some (.inl ((wrap64 (x169 + (1 : Int))), (setV x170 x169 ((getV x170 x169) + (getV x59 x169)))))))) else some (.inr (x169, x170)))

def r03_Sum_s2 (t10 : (Vector UInt32 64)) (t44 : (Vector UInt32 64)) : (Int × (Vector UInt32 8)) → Option ((Int × (Vector UInt32 8)) ⊕ (Int × (Vector UInt32 8)))
 | (x58, x59) => (if (decide (x58 < (64 : Int))) = true then ((r03_right (getV x59 (4 : Int)) (6 : Int)).bind fun t69 => ((r03_right (getV x59 (4 : Int)) (11 : Int)).bind fun t76 => ((r03_right (getV x59 (4 : Int)) (25 : Int)).bind fun t83 => ((req ((0 : Int) ≤ x58 ∧ x58 < (64 : Nat))).bind fun _ => ((req ((0 : Int) ≤ x58 ∧ x58 < (64 : Nat))).bind fun _ => ((r03_right (getV x59 (0 : Int)) (2 : Int)).bind fun t115 => ((r03_right (getV x59 (0 : Int)) (13 : Int)).bind fun t122 => ((r03_right (getV x59 (0 : Int)) (22 : Int)).bind fun t129 => some (.inl ((wrap64 (x58 + (1 : Int))), #v[(((((((getV x59 (7 : Int)) + ((t69 ^^^ t76) ^^^ t83)) + (((getV x59 (4 : Int)) &&& (getV x59 (5 : Int))) ||| ((4294967295 - (getV x59 (4 : Int))) &&& (getV x59 (6 : Int))))) + (getV t10 x58)) + (getV t44 x58)) + ((t115 ^^^ t122) ^^^ t129)) + ((((getV x59 (0 : Int)) &&& (getV x59 (1 : Int))) ||| ((getV x59 (0 : Int)) &&& (getV x59 (2 : Int)))) ||| ((getV x59 (1 : Int)) &&& (getV x59 (2 : Int))))), (getV x59 (0 : Int)), (getV x59 (1 : Int)), (getV x59 (2 : Int)), ((getV x59 (3 : Int)) + (((((getV x59 (7 : Int)) + ((t69 ^^^ t76) ^^^ t83)) + (((getV x59 (4 : Int)) &&& (getV x59 (5 : Int))) ||| ((4294967295 - (getV x59 (4 : Int))) &&& (getV x59 (6 : Int))))) + (getV t10 x58)) + (getV t44 x58))), (getV x59 (4 : Int)), (getV x59 (5 : Int)), (getV x59 (6 : Int))])))))))))) else some (.inr (x58, x59)))

def r03_Sum_s4 (x32 : (Vector UInt32 8)) : (Int × Lab) → Option ((Int × Lab) ⊕ (Int × Lab))
 | (x193, x194) => (if (decide (x193 < (32 : Int))) = true then ((req ((0 : Int) ≤ (wrap64 (Int.tdiv x193 (4 : Int))) ∧ (wrap64 (Int.tdiv x193 (4 : Int))) < (8 : Nat))).bind fun _ => ((req (0 ≤ (wrap64 ((24 : Int) - (wrap64 ((Int.tmod x193 (4 : Int)) * (8 : Int))))))).bind fun _ => ((req ((0 : Int) ≤ x193 ∧ x193 < (32 : Nat))).bind fun _ => some (.inl ((wrap64 (x193 + (1 : Int))), (setV x194 x193 ((hr_u32 (getV x32 (wrap64 (Int.tdiv x193 (4 : Int)))) (wrap64 ((24 : Int) - (wrap64 ((Int.tmod x193 (4 : Int)) * (8 : Int)))))).toUInt8))))))) else some (.inr (x193, x194)))

def r03_Sum_s1 (t10 : (Vector UInt32 64)) (t20 : (List UInt8)) : (Int × (Vector UInt32 8)) → Option ((Int × (Vector UInt32 8)) ⊕ (Int × (Vector UInt32 8)))
 | (x31, x32) => (if (decide (x31 < (lenI t20))) = true then ((req ((0 : Int) ≤ x31 ∧ x31 ≤ (wrap64 (x31 + (64 : Int))) ∧ (wrap64 (x31 + (64 : Int))) ≤ lenI t20)).bind fun _ => ((r03_Words (cutL t20 x31 (wrap64 (x31 + (64 : Int))))).bind fun t44 => ((iter (r03_Sum_s2 t10 t44) ((0 : Int), x32)).bind fun b61 => (match b61 with | (x58, x59) => ((iter (r03_Sum_s3 x59) ((0 : Int), x32)).bind fun b172 => (match b172 with | (x169, x170) => some (.inl ((wrap64 (x31 + (64 : Int))), x170)))))))) else some (.inr (x31, x32)))

def r03_Sum  (a0 : Str) : Option Lab :=
 ((r03_Begin).bind fun t5 => ((r03_Steps).bind fun t10 => ((r03_Padded a0).bind fun t20 => ((iter (r03_Sum_s1 t10 t20) ((0 : Int), t5)).bind fun b34 => (match b34 with | (x31, x32) => ((iter (r03_Sum_s4 x32) ((0 : Int), zL)).bind fun b196 => (match b196 with | (x193, x194) => some x194)))))))

end
end Go.Ch
end
section
/- Functions of the program: what each comes to, proved. -/
set_option linter.unusedVariables false
set_option linter.unusedSimpArgs false
set_option maxRecDepth 100000
set_option maxHeartbeats 4000000
namespace Go.Ch
open Go.RowKit (wrap64)
open Go.Proofs
noncomputable section
/- chirograph/chirographref16.Leaf -/
/- chirograph/chirographref16.Inner -/
/- chirograph/chirographref16.over -/
/- chirograph/chirographref16.Check -/
/- chirograph/chirographref16.Sorted -/
/- chirograph/chirographref16.Of -/
end
end Go.Ch
end
section
/- Functions of the program: what each comes to, proved. -/
set_option linter.unusedVariables false
set_option linter.unusedSimpArgs false
set_option maxRecDepth 100000
set_option maxHeartbeats 4000000
namespace Go.Ch
open Go.RowKit (wrap64)
open Go.Proofs
noncomputable section
/- chirograph/chirographref18.has -/
end
end Go.Ch
end
section
/- Functions of the program: what each comes to, proved. -/
set_option linter.unusedVariables false
set_option linter.unusedSimpArgs false
set_option maxRecDepth 100000
set_option maxHeartbeats 4000000
namespace Go.Ch
open Go.RowKit (wrap64)
open Go.Proofs
noncomputable section
/- chirograph/chirographref18.Nodes -/
end
end Go.Ch
end
section
/- Functions of the program: what each comes to, proved. -/
set_option linter.unusedVariables false
set_option linter.unusedSimpArgs false
set_option maxRecDepth 100000
set_option maxHeartbeats 4000000
namespace Go.Ch
open Go.RowKit (wrap64)
open Go.Proofs
noncomputable section
/- chirograph/chirographref16.Join -/
end
end Go.Ch
end
section
/- Functions of the program: what each comes to, proved. -/
set_option linter.unusedVariables false
set_option linter.unusedSimpArgs false
set_option maxRecDepth 100000
set_option maxHeartbeats 4000000
namespace Go.Ch
open Go.RowKit (wrap64)
open Go.Proofs
noncomputable section
/- chirograph/chirographref18.Check -/
/- chirograph/chirographref18.sides -/
/- chirograph/chirographref18.Make -/
/- chirograph/chirographref18.Way -/
end
end Go.Ch
end
