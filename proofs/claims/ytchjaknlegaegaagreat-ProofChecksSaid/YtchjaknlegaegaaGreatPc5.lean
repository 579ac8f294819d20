/- ProofChecks of layer 18 returns true for every input, and each argument reads behind the call as it read before. Part 6 of 6. No condition. -/
import Derived.Test.YtchjaknlegaegaaGreatRows
import Derived.ProofKit
import Derived.Test.YtchjaknlegaegaaGreatPc4
section
/- What two ways have unlike: the program's, the document's. -/
set_option linter.unusedVariables false
set_option linter.unusedSimpArgs false
namespace Go.Ch
open Go.RowKit (wrap64)
noncomputable section

def clashS (a b : Str) : Bool := !(a == b) && H a == H b
theorem proof_Clash_eq (a b : Str) (ha : a.length ≤ 10000000) (hb : b.length ≤ 10000000) : proof_Clash a b = some (clashS a b) := by
  unfold proof_Clash clashS
  rw [sha_Sum_eq _ ha, sha_Sum_eq _ hb]
  cases (a == b) <;> simp
/-- What is summed of a tree's top. -/
def realT (l : List Leaf) : Str := if l = [] then [18] else if 2 ≤ l.length then innerBytes (tree (lit (loL l))) (tree (lit (hiL l))) else l.head?.elim [] leafBytes
def nextL (l : List Leaf) (lab : Lab) : List Leaf := if 2 ≤ l.length then (if bt lab (fork Leaf.label l) = true then hiL l else loL l) else l
theorem realT_nil : realT [] = [18] := rfl
theorem realT_one (x : Leaf) : realT [x] = leafBytes x := by unfold realT; rw [if_neg (by simp), if_neg (by simp)]; rfl
theorem realT_two {l : List Leaf} (h2 : 2 ≤ l.length) : realT l = innerBytes (tree (lit (loL l))) (tree (lit (hiL l))) := by
  unfold realT; rw [if_neg (by intro e; rw [e] at h2; simp at h2), if_pos h2]
theorem realT_len (l : List Leaf) : (realT l).length ≤ 169 := by
  by_cases h2 : 2 ≤ l.length
  · rw [realT_two h2, innerBytes_len]; omega
  · rcases small_of h2 with rfl | ⟨x, rfl⟩
    · rw [realT_nil]; simp
    · rw [realT_one, leafBytes_len]; omega
theorem nextL_less (l : List Leaf) (lab : Lab) (h : Rise Leaf.label l) : (nextL l lab).length ≤ l.length ∧ Rise Leaf.label (nextL l lab) := by
  unfold nextL
  split
  · rename_i h2
    obtain ⟨q1, q2, q3, q4, q5, q6⟩ := halvesL h h2
    split
    · exact ⟨by omega, q6⟩
    · exact ⟨by omega, q5⟩
  · exact ⟨by omega, h⟩
def exP (lab : Lab) : List Nd → List Leaf → Str × Str × Bool
  | [], _ => ([], [], false)
  | n :: r, l => if ndText n ≠ realT l then (ndText n, realT l, clashS (ndText n) (realT l)) else exP lab r (nextL l lab)
def exEnd (b : (Str × Str × Bool ⊕ (Int × (List Leaf)))) : Option (Str × Str × Bool) := (match b with | .inl r₀ => some r₀ | .inr (x49, x50) => some (([] : Str), ([] : Str), false))

/-- One step down in a tree, as the program makes it. -/
theorem ex_down (k : Nat) (lab : Lab) (l : List Leaf) (h : Rise Leaf.label l) (h2 : 2 ≤ l.length) (hk : l.length ≤ k) (hs : l.length ≤ 1000) (i : Int) :
    ((proof_pair (proof_item k) l).bind fun t109 => ((node_Inner_Item t109).bind fun t114 => ((proof_sides l t114.len).bind fun t120 => ((bits_Bit lab t114.len).bind fun t131 => (if (t131 == (1 : Int)) = true then (some (.inl (i, t120.2)) : Option ((Int × (List Leaf)) ⊕ (Str × Str × Bool ⊕ (Int × (List Leaf))))) else some (.inl (i, t120.1))))))) = some (.inl (i, nextL l lab)) := by
  rw [proof_pair_at k l h2 hk (by omega) h, some_bind, node_Inner_Item_eq, some_bind]
  simp only
  rw [← tree_leaves h h2, tree_lenL h h2, proof_sides_eq _ _ (by omega), some_bind, bits_Bit_eq, some_bind, bitI_nat, b01_one]
  unfold nextL
  rw [if_pos h2]
  cases bt lab (fork Leaf.label l) <;> rfl
theorem ex_step (k : Nat) (lab : Lab) (c : List Nd) (e : Int) (n : Nd) (i : Nat) (hi : i < c.length) (hn : getI c (i : Int) = n) (hc : c.length ≤ 1000) (l : List Leaf) (h : Rise Leaf.label l) (hk : l.length ≤ k) (hs : l.length ≤ 1000) :
    proof_Extract_s1 k lab (c, e) ((i : Int), l) = if ndText n ≠ realT l then some (.inr (.inl (ndText n, realT l, clashS (ndText n) (realT l)))) else some (.inl ((i : Int) - 1, nextL l lab)) := by
  have hnl := ndText_len n
  have hrl := realT_len l
  have hcl := proof_Clash_eq (ndText n) (realT l) (by omega) (by omega)
  simp only [proof_Extract_s1]
  rw [dec_t (by omega), if_pos rfl, dec_t (by omega), if_pos rfl, req_t (by rw [lenI]; simp; omega), hn, proof_Summed_eq, some_bind, wrap_id (by omega)]
  by_cases h2 : 2 ≤ l.length
  · have h0 : (lenI l == 0) = false := by simp [lenI]; intro e; rw [e] at h2; simp at h2
    have h1 : (lenI l == 1) = false := by simp [lenI]; omega
    rw [h0, if_neg (by simp), h1, if_neg (by simp), ex_down k lab l h h2 hk hs, proof_pair_at k l h2 hk (by omega) h, some_bind, proof_Summed_eq, some_bind]
    rw [show ndText (Nd.inner ⟨tree (lit (loL l)), tree (lit (hiL l))⟩) = realT l from (realT_two h2).symm]
    by_cases hne : ndText n = realT l
    · rw [show (!(ndText n == realT l)) = false by simp [hne], if_neg (by simp), dec_t (by rw [lenI]; omega), if_pos rfl, if_neg (by simp [hne])]
    · rw [show (!(ndText n == realT l)) = true by simpa using hne, if_pos rfl, hcl, some_bind, if_pos hne]
  · have hnx : nextL l lab = l := by unfold nextL; rw [if_neg h2]
    rw [hnx]
    rcases small_of h2 with rfl | ⟨x, rfl⟩
    · rw [show (lenI ([] : List Leaf) == 0) = true from rfl, if_pos rfl]
      rw [realT_nil] at hcl ⊢
      by_cases hne : ndText n = [18]
      · rw [show (!(ndText n == [18])) = false by simp [hne], if_neg (by simp), dec_f (by simp [lenI]), if_neg (by simp), if_neg (by simp [hne])]
      · rw [show (!(ndText n == [18])) = true by simpa using hne, if_pos rfl, hcl, some_bind, if_pos hne]
    · rw [show (lenI [x] == 0) = false from rfl, if_neg (by simp), show (lenI [x] == 1) = true from rfl, if_pos rfl, req_t (by simp [lenI]), proof_Summed_eq, some_bind]
      rw [show ndText (Nd.leaf (getI [x] 0)) = realT [x] from (realT_one x).symm]
      by_cases hne : ndText n = realT [x]
      · rw [show (!(ndText n == realT [x])) = false by simp [hne], if_neg (by simp), dec_f (by simp [lenI]), if_neg (by simp), if_neg (by simp [hne])]
      · rw [show (!(ndText n == realT [x])) = true by simpa using hne, if_pos rfl, hcl, some_bind, if_pos hne]
theorem ex_loop (k : Nat) (lab : Lab) (c : List Nd) (e : Int) (hc : c.length ≤ 1000) (hn : c ≠ []) : ∀ (m : Nat), m ≤ c.length → ∀ l : List Leaf, Rise Leaf.label l → l.length ≤ k → l.length ≤ 1000 →
    ∃ b, iter (proof_Extract_s1 k lab (c, e)) ((m : Int) - 1, l) = some b ∧ exEnd b = some (exP lab (c.take m).reverse l)
  | 0, hm, l, h, hk, hs => by
    refine ⟨.inr (((0 : Nat) : Int) - 1, l), iter_end ?_, rfl⟩
    simp only [proof_Extract_s1]
    rw [dec_t (by omega), if_pos rfl, dec_f (by omega), if_neg (by simp), dec_t (lenI_pos hn), if_pos rfl]
  | m + 1, hm, l, h, hk, hs => by
    have hi : m < c.length := by omega
    have hst := ex_step k lab c e c[m] m hi (getI_nat c m hi) hc l h hk hs
    have ht : (c.take (m + 1)).reverse = c[m] :: (c.take m).reverse := by rw [List.take_succ_eq_append_getElem hi, List.reverse_append]; rfl
    have e1 : ((m + 1 : Nat) : Int) - 1 = (m : Int) := by omega
    rw [e1, ht, exP]
    by_cases hne : ndText c[m] = realT l
    · rw [if_neg (by simp [hne])] at hst ⊢
      obtain ⟨n1, n2⟩ := nextL_less l lab h
      obtain ⟨b, h1, h2⟩ := ex_loop k lab c e hc hn m (by omega) (nextL l lab) n2 (by omega) (by omega)
      exact ⟨b, iter_next hst h1, h2⟩
    · rw [if_pos hne] at hst ⊢
      exact ⟨_, iter_end hst, rfl⟩
/-- Of a way without nodes. -/
def exNone (l : List Leaf) : Str × Str × Bool := if ([18] : Str) ≠ realT l then ([18], realT l, clashS [18] (realT l)) else ([], [], false)
theorem ex_none (k : Nat) (lab : Lab) (e : Int) (l : List Leaf) (h : Rise Leaf.label l) (hk : l.length ≤ k) (hs : l.length ≤ 1000) :
    ∃ b, iter (proof_Extract_s1 k lab ([], e)) (-1, l) = some b ∧ exEnd b = some (exNone l) := by
  have hrl := realT_len l
  have hcl := proof_Clash_eq [18] (realT l) (by simp) (by omega)
  have hst : proof_Extract_s1 k lab ([], e) (-1, l) = if ([18] : Str) ≠ realT l then some (.inr (.inl ([18], realT l, clashS [18] (realT l)))) else some (.inl (-2, nextL l lab)) := by
    simp only [proof_Extract_s1]
    rw [dec_t (by omega), if_pos rfl, dec_f (by omega), if_neg (by simp), dec_f (by simp [lenI]), if_neg (by simp), wrap_id (by omega)]
    by_cases h2 : 2 ≤ l.length
    · have h0 : (lenI l == 0) = false := by simp [lenI]; intro e; rw [e] at h2; simp at h2
      have h1 : (lenI l == 1) = false := by simp [lenI]; omega
      rw [h0, if_neg (by simp), h1, if_neg (by simp), ex_down k lab l h h2 hk hs, proof_pair_at k l h2 hk (by omega) h, some_bind, proof_Summed_eq, some_bind]
      rw [show ndText (Nd.inner ⟨tree (lit (loL l)), tree (lit (hiL l))⟩) = realT l from (realT_two h2).symm]
      by_cases hne : ([18] : Str) = realT l
      · rw [show (!(([18] : Str) == realT l)) = false by simp [← hne], if_neg (by simp), dec_t (by rw [lenI]; omega), if_pos rfl, if_neg (by simp [← hne])]
        rfl
      · rw [show (!(([18] : Str) == realT l)) = true by simpa using hne, if_pos rfl, hcl, some_bind, if_pos hne]
    · have hnx : nextL l lab = l := by unfold nextL; rw [if_neg h2]
      rw [hnx]
      rcases small_of h2 with rfl | ⟨x, rfl⟩
      · rw [show (lenI ([] : List Leaf) == 0) = true from rfl, if_pos rfl, realT_nil]
        rw [show (!(([18] : Str) == [18])) = false by simp, if_neg (by simp), dec_f (by simp [lenI]), if_neg (by simp), if_neg (by simp)]
        rfl
      · rw [show (lenI [x] == 0) = false from rfl, if_neg (by simp), show (lenI [x] == 1) = true from rfl, if_pos rfl, req_t (by simp [lenI]), proof_Summed_eq, some_bind]
        rw [show ndText (Nd.leaf (getI [x] 0)) = realT [x] from (realT_one x).symm]
        by_cases hne : ([18] : Str) = realT [x]
        · rw [show (!(([18] : Str) == realT [x])) = false by simp [← hne], if_neg (by simp), dec_f (by simp [lenI]), if_neg (by simp), if_neg (by simp [← hne])]
          rfl
        · rw [show (!(([18] : Str) == realT [x])) = true by simpa using hne, if_pos rfl, hcl, some_bind, if_pos hne]
  unfold exNone
  by_cases hne : ([18] : Str) = realT l
  · rw [if_neg (by simp [← hne])] at hst ⊢
    refine ⟨.inr (-2, nextL l lab), iter_next hst (iter_end ?_), rfl⟩
    simp only [proof_Extract_s1]
    rw [dec_f (by omega), if_neg (by simp)]
  · rw [if_pos hne] at hst ⊢
    exact ⟨_, iter_end hst, rfl⟩
def exS (l : List Leaf) (lab : Lab) (p : Proof) : Str × Str × Bool :=
  if (nodesS p lab).2 ≠ 0 ∨ checkS (ofS l) ≠ 0 then ([], [], false)
  else if (nodesS p lab).1 = [] then exNone (sortLf l) else exP lab (nodesS p lab).1.reverse (sortLf l)
theorem proof_Extract_eq (k : Nat) (l : List Leaf) (lab : Lab) (p : Proof) (hl : l.length ≤ 20) (hk : l.length ≤ k) (hp : p.path.length ≤ 1000) : proof_Extract k l lab p = some (exS l lab p) := by
  have hsl : (sortLf l).length = l.length := sort_length _ _
  unfold proof_Extract exS
  rw [proof_sorted_eq k l hl, some_bind, proof_Nodes_eq p lab hp, some_bind, patch_Of_eq k _ (by omega), some_bind, ofS_sorted, patch_Check_eq _ (by rw [ofS_length]; omega), some_bind]
  by_cases h1 : (nodesS p lab).2 = 0
  · by_cases h2 : checkS (ofS l) = 0
    · have hr := sorted_of_check h2
      have hnl := nodes_length p lab
      rw [show ((nodesS p lab).2 != 0) = false by simp [h1], if_neg (by simp), show (checkS (ofS l) != 0) = false by simp [h2], some_bind, if_neg (by simp)]
      rw [if_neg (show ¬ ((nodesS p lab).2 ≠ 0 ∨ checkS (ofS l) ≠ 0) by simp [h1, h2])]
      rw [wrap_id (by rw [lenI]; omega)]
      by_cases hn : (nodesS p lab).1 = []
      · obtain ⟨b, b1, b2⟩ := ex_none k lab (nodesS p lab).2 (sortLf l) hr (by omega) (by omega)
        have e : nodesS p lab = ([], (nodesS p lab).2) := by rw [← hn]
        rw [if_pos hn, e, show lenI ([] : List Nd) - 1 = -1 from rfl]
        rw [b1, some_bind]
        exact b2
      · obtain ⟨b, b1, b2⟩ := ex_loop k lab (nodesS p lab).1 (nodesS p lab).2 (by omega) hn (nodesS p lab).1.length (Nat.le_refl _) (sortLf l) hr (by omega) (by omega)
        rw [if_neg hn]
        rw [List.take_length] at b2
        rw [show lenI (nodesS p lab).1 - 1 = (((nodesS p lab).1.length : Nat) : Int) - 1 from rfl, b1, some_bind]
        exact b2
    · rw [show ((nodesS p lab).2 != 0) = false by simp [h1], if_neg (by simp), show (checkS (ofS l) != 0) = true by simpa using h2, some_bind, if_pos rfl, if_pos (.inr h2)]
  · rw [show ((nodesS p lab).2 != 0) = true by simpa using h1, if_pos rfl, some_bind, if_pos rfl, if_pos (.inl h1)]

/-! ### the document's -/
def exR : List Str → List Str → Str × Str × Bool
  | a :: r, b :: s => if a ≠ b then (a, b, H a == H b) else exR r s
  | [], _ => ([], [], false)
  | _ :: _, [] => ([], [], false)
def exEnd2 (b : (Str × Str × Bool ⊕ (Int))) : Option (Str × Str × Bool) := (match b with | .inl r₀ => some r₀ | .inr x86 => some (([] : Str), ([] : Str), false))
theorem exR_loop (A B : List Str) (hA : A.length ≤ 100000) (hB : B.length ≤ 100000) (ha : ∀ s ∈ A, s.length ≤ 1000) (hb : ∀ s ∈ B, s.length ≤ 1000) : ∀ (a b p q : List Str), A = p ++ a → B = q ++ b → p.length = q.length →
    ∃ x, iter (r18_Extract_s3 A B) (p.length : Int) = some x ∧ exEnd2 x = some (exR a b)
  | [], b, p, q, e1, e2, e3 => by
    refine ⟨.inr (p.length : Int), iter_end ?_, by cases b <;> rfl⟩
    simp only [r18_Extract_s3]
    rw [dec_f (by simp [e1, lenI]), if_neg (by simp), some_bind, if_neg (by simp)]
  | x :: a, [], p, q, e1, e2, e3 => by
    refine ⟨.inr (p.length : Int), iter_end ?_, rfl⟩
    simp only [r18_Extract_s3]
    have hb : B.length = p.length := by rw [e2, e3]; simp
    rw [dec_t (by simp [e1, lenI]; omega), if_pos rfl, dec_f (by rw [lenI]; omega), some_bind, if_neg (by simp)]
  | x :: a, y :: b, p, q, e1, e2, e3 => by
    have la : (p.length : Int) < lenI A := by simp [e1, lenI]; omega
    have lb : (p.length : Int) < lenI B := by simp [e2, lenI, e3]; omega
    have hl : p.length < A.length := by simp [e1]
    have gx : getI A (p.length : Int) = x := by rw [e1, getI_mid]
    have gy : getI B (p.length : Int) = y := by rw [e2, e3, getI_mid]
    have sx := ha x (by rw [e1]; simp)
    have sy := hb y (by rw [e2]; simp)
    have hst : r18_Extract_s3 A B (p.length : Int) = if x ≠ y then some (.inr (.inl (x, y, H x == H y))) else some (.inl (((p.length + 1 : Nat)) : Int)) := by
      simp only [r18_Extract_s3]
      rw [dec_t la, if_pos rfl, dec_t lb, some_bind, if_pos rfl, req_t (by omega), req_t (by omega), gx, gy]
      by_cases hne : x = y
      · rw [show (!(x == y)) = false by simp [hne], if_neg (by simp), if_neg (by simp [hne]), wrap_id (by omega)]; rfl
      · rw [show (!(x == y)) = true by simpa using hne, if_pos rfl, if_pos hne, req_t (by omega), req_t (by omega), req_t (by omega), r03_Sum_eq _ (by omega), some_bind, req_t (by omega), r03_Sum_eq _ (by omega), some_bind]
    rw [exR]
    by_cases hne : x = y
    · rw [if_neg (by simp [hne])] at hst ⊢
      obtain ⟨z, z1, z2⟩ := exR_loop A B hA hB ha hb a b (p ++ [x]) (q ++ [y]) (by simp [e1]) (by simp [e2]) (by simp [e3])
      refine ⟨z, iter_next hst ?_, z2⟩
      simpa using z1
    · rw [if_pos hne] at hst ⊢
      exact ⟨_, iter_end hst, rfl⟩
theorem rev_loop (f : (Int × (List Str)) → Option ((Int × (List Str)) ⊕ (Int × (List Str)))) (t : List Str) (ht : t.length ≤ 100000)
    (hf : ∀ x48 x49, f (x48, x49) = (if (decide ((0 : Int) ≤ x48)) = true then ((req ((0 : Int) ≤ x48 ∧ x48 < lenI t)).bind fun _ => ((req (List.length x49 + List.length ([(getI t x48)] : List Str) ≤ LIM)).bind fun _ => some (.inl ((wrap64 (x48 - (1 : Int))), (x49 ++ ([(getI t x48)] : List Str)))))) else some (.inr (x48, x49)))) :
    iter f (lenI t - 1, []) = some (-1, t.reverse) := by
  have := iter_to (step := f) (fun k => ((t.length : Int) - 1 - (k : Int), t.reverse.take k)) t.length (b := (-1, t.reverse)) (fun k hk => ?_) ?_
  · simp only [List.take_zero] at this
    rw [show lenI t - 1 = (t.length : Int) - 1 - ((0 : Nat) : Int) by simp [lenI]]
    exact this
  · rw [hf, dec_t (by omega), if_pos rfl, req_t (by rw [lenI]; omega), req_t (by simp [LIM]; omega), wrap_id (by omega)]
    have e : (t.length : Int) - 1 - (k : Int) = ((t.length - 1 - k : Nat) : Int) := by omega
    have hk2 : k < t.reverse.length := by simpa using hk
    rw [e, getI_nat _ _ (by omega), List.take_succ_eq_append_getElem hk2, List.getElem_reverse]
    congr 3
    omega
  · rw [hf, dec_f (by omega), if_neg (by simp), show (t.length : Int) - 1 - (t.length : Int) = -1 by omega, List.take_of_length_le (by simp)]
def wayT (l : List Leaf) (lab : Lab) : List Str := if l = [] then [[18]] else (realN l lab).map ndText
theorem realN_ne {l : List Leaf} (lab : Lab) (h : Rise Leaf.label l) (hn : l ≠ []) : realN l lab ≠ [] := by
  by_cases h2 : 2 ≤ l.length
  · rw [realN_two h h2]; simp
  · obtain ⟨x, rfl⟩ := one_of hn h2
    rw [realN_one]; simp
theorem way_path_len (lab : Lab) : ∀ (n : Nat) (l : List Leaf), l.length ≤ n → Rise Leaf.label l → (way l lab).path.length ≤ l.length := by
  intro n
  induction n with
  | zero =>
    intro l hl _
    have : l = [] := List.length_eq_zero_iff.1 (by omega)
    subst this; rw [way_nil]; simp [zPf]
  | succ n ih =>
    intro l hl h
    by_cases h2 : 2 ≤ l.length
    · obtain ⟨q1, q2, q3, q4, q5, q6⟩ := halvesL h h2
      have a := ih _ (by omega) q5
      have b := ih _ (by omega) q6
      rw [way_two h h2]
      split
      · simp
      · split <;> simp [Proof.adds] <;> omega
    · rcases small_of h2 with rfl | ⟨x, rfl⟩
      · rw [way_nil]; simp [zPf]
      · rw [way_one]; simp
theorem realN_len (lab : Lab) : ∀ (n : Nat) (l : List Leaf), l.length ≤ n → Rise Leaf.label l → (realN l lab).length ≤ l.length := by
  intro n
  induction n with
  | zero =>
    intro l hl _
    have : l = [] := List.length_eq_zero_iff.1 (by omega)
    subst this; rw [realN_nil]; simp
  | succ n ih =>
    intro l hl h
    by_cases h2 : 2 ≤ l.length
    · obtain ⟨q1, q2, q3, q4, q5, q6⟩ := halvesL h h2
      have a := ih _ (by omega) q5
      have b := ih _ (by omega) q6
      rw [realN_two h h2]
      split
      · simp; omega
      · split <;> simp <;> omega
    · rcases small_of h2 with rfl | ⟨x, rfl⟩
      · rw [realN_nil]; simp
      · rw [realN_one]; simp
theorem r18_Way_eq (k : Nat) (l : List Leaf) (lab : Lab) (hl : l.length ≤ 250) (hk : l.length ≤ k) (h : checkS (ofS l) = 0) : r18_Way k l lab = some (wayT (sortLf l) lab) := by
  have hr := sorted_of_check h
  have hsl : (sortLf l).length = l.length := sort_length _ _
  have hpl := way_path_len lab _ (sortLf l) (Nat.le_refl _) hr
  have hrl := realN_len lab _ (sortLf l) (Nat.le_refl _) hr
  unfold r18_Way
  rw [r18_Make_eq k l lab (by omega) hk h, some_bind, r18_Nodes_eq _ _ (by omega), some_bind, way_nodes lab _ (by omega) hr (ok_of_check h)]
  have hlen : (List.map ndText (realN (sortLf l) lab).reverse).length ≤ 1000 := by simp; omega
  rw [wrap_id (by simp only [tellS, lenI]; omega)]
  rw [rev_loop _ (tellS ((realN (sortLf l) lab).reverse, 0)).1 (by simp only [tellS]; omega) (fun _ _ => rfl), some_bind]
  dsimp only
  rw [show (tellS ((realN (sortLf l) lab).reverse, 0)).1.reverse = (realN (sortLf l) lab).map ndText by simp [tellS]]
  unfold wayT
  by_cases hn : sortLf l = []
  · rw [hn, realN_nil, if_pos rfl]; rfl
  · rw [if_neg hn]
    have := realN_ne lab hr hn
    have h0 : (lenI (List.map ndText (realN (sortLf l) lab)) == 0) = false := by
      have := List.length_pos_iff.2 this
      simp [lenI]; intro e; rw [e] at this; simp at this
    rw [h0, if_neg (by simp)]
def exS2 (l : List Leaf) (lab : Lab) (p : Proof) : Str × Str × Bool :=
  if (nodesS p lab).2 ≠ 0 ∨ checkS (ofS l) ≠ 0 then ([], [], false)
  else exR (if (nodesS p lab).1 = [] then [[18]] else (nodesS p lab).1.reverse.map ndText) (wayT (sortLf l) lab)
theorem wayT_len (l : List Leaf) (lab : Lab) (h : Rise Leaf.label l) (hl : l.length ≤ 1000) : (wayT l lab).length ≤ 1001 ∧ ∀ s ∈ wayT l lab, s.length ≤ 1000 := by
  have hrl := realN_len lab _ l (Nat.le_refl _) h
  unfold wayT
  split
  · simp
  · refine ⟨by simp; omega, fun s hs => ?_⟩
    obtain ⟨n, _, rfl⟩ := List.mem_map.1 hs
    have := ndText_len n; omega
theorem r18_Extract_eq (k : Nat) (l : List Leaf) (lab : Lab) (p : Proof) (hl : l.length ≤ 250) (hk : l.length ≤ k) (hp : p.path.length ≤ 1000) : r18_Extract k l lab p = some (exS2 l lab p) := by
  have hsl : (sortLf l).length = l.length := sort_length _ _
  unfold r18_Extract exS2
  rw [r18_Nodes_eq p lab hp, some_bind, r16_Of_eq l (by omega), some_bind, r16_Check_eq _ (by rw [ofS_length]; omega), some_bind]
  rw [show (tellS (nodesS p lab)).2.2 = (nodesS p lab).2 from rfl]
  by_cases h1 : (nodesS p lab).2 = 0
  · by_cases h2 : checkS (ofS l) = 0
    · have hr := sorted_of_check h2
      have hnl := nodes_length p lab
      obtain ⟨w1, w2⟩ := wayT_len (sortLf l) lab hr (by omega)
      have htl : (tellS (nodesS p lab)).1.length = (nodesS p lab).1.length := by simp [tellS]
      rw [show ((nodesS p lab).2 != 0) = false by simp [h1], if_neg (by simp), show (checkS (ofS l) != 0) = false by simp [h2], some_bind, if_neg (by simp)]
      rw [if_neg (show ¬ ((nodesS p lab).2 ≠ 0 ∨ checkS (ofS l) ≠ 0) by simp [h1, h2])]
      rw [wrap_id (by rw [lenI, htl]; omega), rev_loop _ (tellS (nodesS p lab)).1 (by omega) (fun _ _ => rfl), some_bind]
      dsimp only
      rw [r18_Way_eq k l lab hl hk h2, some_bind, some_bind]
      rw [show (tellS (nodesS p lab)).1.reverse = (nodesS p lab).1.reverse.map ndText by simp [tellS]]
      by_cases hn : (nodesS p lab).1 = []
      · rw [hn, if_pos rfl]
        rw [show (lenI (List.map ndText ([] : List Nd).reverse) == 0) = true from rfl, if_pos rfl, req_t (by simp [LIM])]
        obtain ⟨x, x1, x2⟩ := exR_loop [[18]] (wayT (sortLf l) lab) (by simp) (by omega) (by simp) w2 [[18]] (wayT (sortLf l) lab) [] [] rfl rfl rfl
        have e : iter (r18_Extract_s2 (List.map ndText ([] : List Nd).reverse) (wayT (sortLf l) lab)) 0 = some x := x1
        rw [e, some_bind]
        exact x2
      · rw [if_neg hn]
        have hne : (nodesS p lab).1.reverse.map ndText ≠ [] := by simpa using hn
        rw [show (lenI ((nodesS p lab).1.reverse.map ndText) == 0) = false by have := lenI_pos hne; exact beq_false_of_ne (by omega), if_neg (by simp)]
        obtain ⟨x, x1, x2⟩ := exR_loop ((nodesS p lab).1.reverse.map ndText) (wayT (sortLf l) lab) (by simp; omega) (by omega) (fun s hs => by
          obtain ⟨n, _, rfl⟩ := List.mem_map.1 hs
          have := ndText_len n; omega) w2 _ _ [] [] rfl rfl rfl
        rw [show ((0 : Int)) = ((([] : List Str).length : Nat) : Int) from rfl, x1, some_bind]
        exact x2
    · rw [show ((nodesS p lab).2 != 0) = false by simp [h1], if_neg (by simp), show (checkS (ofS l) != 0) = true by simpa using h2, some_bind, if_pos rfl, if_pos (.inr h2)]
  · rw [show ((nodesS p lab).2 != 0) = true by simpa using h1, if_pos rfl, some_bind, if_pos rfl, if_pos (.inl h1)]
end
end Go.Ch
end
section
/- The two tellings of what is unlike are one. -/
set_option linter.unusedVariables false
set_option linter.unusedSimpArgs false
namespace Go.Ch
open Go.RowKit (wrap64)
noncomputable section

theorem clash_same (a b : Str) (h : a ≠ b) : clashS a b = (H a == H b) := by unfold clashS; simp [h]
theorem len4_len (t : Str) : (len4 t).length = 4 := rfl
theorem lab_list {a b : Lab} (h : a.toList = b.toList) : a = b := Vector.toList_inj.1 h
theorem itemText_bits {x y : Item} (h : itemText x = itemText y) : x.bits = y.bits := by
  unfold itemText at h
  have h1 := List.append_inj_left h (by simp [eight_len])
  have h2 := List.append_inj_left h1 (by simp [eight_len])
  have h3 := List.append_inj_right h2 (by simp [eight_len])
  exact lab_list h3
theorem innerBytes_bits {a b c d : Item} (h : innerBytes a b = innerBytes c d) : a.bits = c.bits ∧ b.bits = d.bits := by
  unfold innerBytes joinS at h
  simp only [List.map_cons, List.map_nil, List.flatten_cons, List.flatten_nil, List.append_nil] at h
  have h1 := (List.cons.inj h).2
  have h2 := List.append_inj_left h1 (by simp [len4_len, itemText_len])
  have h3 := List.append_inj_right h1 (by simp [len4_len, itemText_len])
  exact ⟨itemText_bits (List.append_inj_right h2 (by simp [len4_len])), itemText_bits (List.append_inj_right h3 (by simp [len4_len]))⟩
theorem innerBytes_head (a b : Item) : (innerBytes a b).head? = some 17 := rfl
theorem leafBytes_head (x : Leaf) : (leafBytes x).head? = some 16 := rfl
theorem hasI_bits {a b c d : Item} (lab : Lab) (h1 : a.bits = c.bits) (h2 : b.bits = d.bits) : hasI (innerItem a b) lab = hasI (innerItem c d) lab := by
  unfold hasI innerItem; simp only [h1, h2]
/-- All but the last one are over the label. -/
def Valid (lab : Lab) : List Nd → Prop
  | [] => True
  | [n] => n ≠ .nil
  | n :: m :: r => (∃ x, n = .inner x ∧ hasI (inI x) lab = true) ∧ Valid lab (m :: r)
theorem valid_snoc (lab : Lab) (n : Nd) (hn : n ≠ .nil) : ∀ r : List Nd, (∀ m ∈ r, ∃ x, m = .inner x ∧ hasI (inI x) lab = true) → Valid lab (r ++ [n])
  | [], _ => hn
  | [m], h => ⟨h m (by simp), hn⟩
  | m :: q :: r, h => ⟨h m (by simp), valid_snoc lab n hn (q :: r) (fun z hz => h z (by simp [hz]))⟩
theorem ups_valid (lab : Lab) (n : Nd) : ∀ (r : List Item) (acc : List Nd) (x : Item), (∃ a, acc = n :: a ∧ ∀ m ∈ a, ∃ z, m = .inner z ∧ hasI (inI z) lab = true) →
    (upsN (ups lab acc x r)).1 = [] ∨ ∃ a, (upsN (ups lab acc x r)).1 = n :: a ∧ ∀ m ∈ a, ∃ z, m = .inner z ∧ hasI (inI z) lab = true
  | [], acc, x, h => .inr h
  | y :: r, acc, x, ⟨a, ha, h⟩ => by
    rw [ups]
    split
    · exact .inl rfl
    · rename_i hz
      refine ups_valid lab n r _ _ ⟨a ++ [.inner (upN x y)], by rw [ha]; rfl, fun m hm => ?_⟩
      rcases List.mem_append.1 hm with hm | hm
      · exact h m hm
      · have := List.mem_singleton.1 hm
        subst this
        refine ⟨_, rfl, ?_⟩
        have hz' : upE x y lab = 0 := by simpa using hz
        unfold upE at hz'
        split at hz'
        · rename_i q; exact absurd hz' q
        · split at hz'
          · cases hz'
          · rename_i q
            unfold upBad at q
            simp only [Bool.or_eq_true, not_or, Bool.not_eq_true'] at q
            simpa using q.1
theorem nodes_valid (p : Proof) (lab : Lab) : Valid lab (nodesS p lab).1.reverse := by
  have key : ∀ (n : Nd), n ≠ .nil → ∀ x r, Valid lab (upsN (ups lab [n] x r)).1.reverse := fun n hn x r => by
    rcases ups_valid lab n r [n] x ⟨[], rfl, by simp⟩ with h | ⟨a, h, ha⟩
    · rw [h]; trivial
    · rw [h, List.reverse_cons]
      exact valid_snoc lab n hn a.reverse (fun m hm => ha m (by simpa using hm))
  unfold nodesS
  split
  · trivial
  · split
    · split <;> trivial
    · split
      · split
        · trivial
        · exact key _ (by simp) _ _
      · split
        · split
          · trivial
          · split
            · trivial
            · exact key _ (by simp) _ _
        · trivial
theorem realT_head {l : List Leaf} (lab : Lab) (h : Rise Leaf.label l) : ∃ r, wayT l lab = realT l :: r := by
  unfold wayT
  by_cases h2 : 2 ≤ l.length
  · rw [if_neg (by intro e; rw [e] at h2; simp at h2), realN_two h h2, realT_two h2]
    exact ⟨_, rfl⟩
  · rcases small_of h2 with rfl | ⟨x, rfl⟩
    · exact ⟨[], rfl⟩
    · rw [if_neg (by simp), realN_one, realT_one]
      exact ⟨[], rfl⟩
theorem exP_exR (lab : Lab) : ∀ (c : List Nd), Valid lab c → ∀ (l : List Leaf), Rise Leaf.label l → exP lab c l = exR (c.map ndText) (wayT l lab)
  | [], _, l, h => by cases wayT l lab <;> rfl
  | n :: r, hv, l, h => by
    obtain ⟨s, hs⟩ := realT_head lab h
    rw [hs, exP, List.map_cons, exR]
    by_cases hne : ndText n = realT l
    · rw [if_neg (by simp [hne]), if_neg (by simp [hne])]
      cases r with
      | nil => rfl
      | cons m r =>
        obtain ⟨⟨x, rfl, hx⟩, hv2⟩ := hv
        have hh : (realT l).head? = some 17 := by rw [← hne]; rfl
        by_cases h2 : 2 ≤ l.length
        · obtain ⟨q1, q2, q3, q4, q5, q6⟩ := halvesL h h2
          rw [realT_two h2] at hne
          obtain ⟨e1, e2⟩ := innerBytes_bits hne
          have hhas : hasI (tree (lit l)) lab = true := by
            rw [tree_leaves h h2, ← hasI_bits lab e1 e2]; exact hx
          have hw : wayT l lab = realT l :: wayT (nextL l lab) lab := by
            unfold wayT
            have hl0 : l ≠ [] := by intro e; rw [e] at h2; simp at h2
            rw [if_neg hl0, realN_two h h2, hhas, if_neg (by simp), realT_two h2]
            unfold nextL
            rw [if_pos h2]
            cases bt lab (fork Leaf.label l) with
            | true => simp only [if_true]; rw [if_neg q2]; rfl
            | false => simp only [Bool.false_eq_true, if_false]; rw [if_neg q1]; rfl
          have : s = wayT (nextL l lab) lab := by
            rw [hs] at hw; exact (List.cons.inj hw).2
          rw [this]
          exact exP_exR lab (m :: r) hv2 _ (nextL_less l lab h).2
        · rcases small_of h2 with rfl | ⟨y, rfl⟩
          · rw [realT_nil] at hh; simp at hh
          · rw [realT_one, leafBytes_head] at hh; simp at hh
    · rw [if_pos hne, if_pos hne, clash_same _ _ hne]
/-- The two tellings. -/
theorem exS_same (l : List Leaf) (lab : Lab) (p : Proof) : exS l lab p = exS2 l lab p := by
  unfold exS exS2
  by_cases h : (nodesS p lab).2 ≠ 0 ∨ checkS (ofS l) ≠ 0
  · rw [if_pos h, if_pos h]
  · rw [if_neg h, if_neg h]
    have h2 : checkS (ofS l) = 0 := by
      apply Classical.byContradiction; intro q; exact h (.inr q)
    have hr := sorted_of_check h2
    by_cases hn : (nodesS p lab).1 = []
    · rw [if_pos hn, if_pos hn]
      obtain ⟨s, hs⟩ := realT_head lab hr
      rw [hs, exR]
      unfold exNone
      by_cases hne : ([18] : Str) = realT (sortLf l)
      · rw [if_neg (by simp [← hne]), if_neg (by simp [← hne])]
        cases s <;> rfl
      · rw [if_pos hne, if_pos hne, clash_same _ _ hne]
    · rw [if_neg hn, if_neg hn]
      exact exP_exR lab _ (nodes_valid p lab) _ hr

/-! ### the statement's loop -/
theorem exS_clash (l : List Leaf) (lab : Lab) (p : Proof) : clashS (exS l lab p).1 (exS l lab p).2.1 = (exS l lab p).2.2 ∧ (exS l lab p).1.length ≤ 1000 ∧ (exS l lab p).2.1.length ≤ 1000 := by
  have hnil : clashS [] [] = false := by unfold clashS; simp
  have key : ∀ (c : List Nd) (m : List Leaf), clashS (exP lab c m).1 (exP lab c m).2.1 = (exP lab c m).2.2 ∧ (exP lab c m).1.length ≤ 1000 ∧ (exP lab c m).2.1.length ≤ 1000 := by
    intro c
    induction c with
    | nil => intro m; exact ⟨hnil, by simp [exP], by simp [exP]⟩
    | cons n c ih =>
      intro m
      rw [exP]
      split
      · have a := ndText_len n
        have b := realT_len m
        exact ⟨rfl, by simp only; omega, by simp only; omega⟩
      · exact ih _
  unfold exS
  split
  · exact ⟨hnil, by simp, by simp⟩
  · split
    · unfold exNone
      split
      · have b := realT_len (sortLf l)
        exact ⟨rfl, by simp, by simp only; omega⟩
      · exact ⟨hnil, by simp, by simp⟩
    · exact key _ _
theorem l18_loop (c : List Nd) (e e2 : Int) (items : List Item) (hc : c.length ≤ 1000) : iter (l18_ProofChecks_s1 (c, e) (c.map ndText, items, e2)) 0 = some (.inr (c.length : Int)) := by
  have := iter_fold (step := l18_ProofChecks_s1 (c, e) (c.map ndText, items, e2)) (fun k (_ : Unit) => (k : Int)) c (fun _ => ()) (b := (.inr (c.length : Int))) (fun pre x r h => ?_) ?_
  · exact this
  · have h1 : (pre.length : Int) < lenI c := by simp [h, lenI]; omega
    have h2 : pre.length < c.length := by simp [h]
    have h1' : (pre.length : Int) < lenI (c.map ndText) := by simp [h, lenI]; omega
    have hx : getI c (pre.length : Int) = x := by rw [h, getI_mid]
    have hy : getI (c.map ndText) (pre.length : Int) = ndText x := by
      rw [h, List.map_append, List.map_cons]
      have := getI_mid (pre.map ndText) (ndText x) (r.map ndText)
      rwa [List.length_map] at this
    simp only [l18_ProofChecks_s1]
    rw [dec_t h1', if_pos rfl, req_t (by omega), hx, proof_Summed_eq, some_bind, req_t (by omega), hy, wrap_id (by omega)]
    simp
  · simp only [l18_ProofChecks_s1]
    rw [dec_f (by simp [lenI]), if_neg (by simp)]
theorem cutP_len (p : Proof) : (cutP p).path.length ≤ 300 := by unfold cutP; simp; omega
/-- All but the answers that the document fixes. -/
theorem l18_ProofChecks_eq (k : Nat) (hk : 20 ≤ k) (a b : Lab) (p : Proof) (l : List Leaf) (haw : l18_awake k = some true) : l18_ProofChecks k a b p l = some true := by
  have hp := cutP_len p
  have hl : (l.take 20).length ≤ 20 := List.length_take_le _ _
  obtain ⟨c1, c2, c3⟩ := exS_clash (l.take 20) b (cutP p)
  have hself : ∀ s : Str, clashS s s = false := fun s => by unfold clashS; simp
  unfold l18_ProofChecks
  rw [l18_Cut_eq, some_bind, show ((20 : Int)) = ((20 : Nat) : Int) from rfl, l16_Few_eq _ _ (by omega), some_bind, proof_Check_eq _ _ _ (by omega), some_bind, l18_Told_eq _ hp, some_bind, r18_Check_eq _ _ _ (by omega), some_bind,
    proof_Extract_eq k _ _ _ hl (by omega) (by omega), some_bind, l16_Leaves_eq _ (by omega), some_bind, some_bind, r18_Extract_eq k _ _ _ (by omega) (by omega) (by omega), some_bind, proof_Nodes_eq _ _ (by omega), some_bind, some_bind, r18_Nodes_eq _ _ (by omega), some_bind]
  rw [← exS_same]
  have hnl := nodes_length (cutP p) b
  generalize hN : nodesS (cutP p) b = N at hnl
  obtain ⟨c, e⟩ := N
  rw [show tellS (c, e) = (c.map ndText, c.map ndItem, e) from rfl]
  dsimp only
  dsimp only at hnl
  rw [show (e != e) = false by simp, if_neg (by simp), show (lenI c != lenI (List.map ndText c)) = false by simp [lenI], some_bind, if_neg (by simp), l18_loop c e e _ (by omega), some_bind]
  dsimp only
  rw [proof_Clash_eq _ _ (by omega) (by omega), some_bind, c1, proof_Clash_eq _ _ (by omega) (by omega), hself]
  simp only [beq_self_eq_true, Bool.not_true, Bool.false_eq_true, if_false, some_bind, haw, if_true, Bool.and_true, Bool.and_self]
end
end Go.Ch
end
section
/- What the document fixes; the statement's whole answer. -/
set_option linter.unusedVariables false
set_option linter.unusedSimpArgs false
set_option maxRecDepth 100000
namespace Go.Ch
open Go.RowKit (wrap64)
noncomputable section

/-- Is a label below a tree? -/
theorem has_tree {l : List Leaf} (h : Rise Leaf.label l) (h2 : 2 ≤ l.length) (x : Leaf) (hx : x ∈ l) (lab : Lab) : hasI (tree (lit l)) lab = decide (fork Leaf.label l ≤ com x.label lab) := by
  have hI := lit_rise.1 h
  have h2' : 2 ≤ (lit l).length := by rw [lit_len]; exact h2
  have p := (h.parts h2).lt
  have hn : lit l ≠ [] := by intro e; rw [e] at h2'; simp at h2'
  obtain ⟨e1, e2⟩ := (tree_bits _ (lit l) (Nat.le_refl _) hI hn (leafItem x) (List.mem_map_of_mem hx)).1 h2'
  rw [← lit_fork] at e1 e2
  unfold hasI
  rw [← has_same (tree_good hI h2'), e1, e2, clampN_nat (by omega)]
  have := cut_eq_iff x.label lab (fork Leaf.label l) (by omega)
  by_cases c : fork Leaf.label l ≤ com x.label lab
  · rw [dec_t c, beq_iff_eq]; exact (this.2 c).symm
  · rw [dec_f c, beq_eq_false_iff_ne]; exact fun q => c (this.1 q.symm)
theorem realN_top {l : List Leaf} (lab : Lab) (h : Rise Leaf.label l) (hn : l ≠ []) : ∃ n r, realN l lab = n :: r ∧ ndItem n = tree (lit l) := by
  by_cases h2 : 2 ≤ l.length
  · rw [realN_two h h2]
    exact ⟨_, _, rfl, (tree_leaves h h2).symm⟩
  · obtain ⟨x, rfl⟩ := one_of hn h2
    rw [realN_one, show lit [x] = [leafItem x] from rfl, tree_one]
    exact ⟨_, _, rfl, rfl⟩
/-- What is made for a tree is taken for it. -/
theorem made_taken (l : List Leaf) (lab : Lab) (hl : l.length ≤ 250) (h : checkS (ofS l) = 0) :
    checkP (topS (ofS l)) lab (way (sortLf l) lab) = if (way (sortLf l) lab).end_ = 1 ∧ (way (sortLf l) lab).leaf.label = lab then ((way (sortLf l) lab).leaf, true, 0) else (zLf, false, 0) := by
  have hr := sorted_of_check h
  have hsl : (sortLf l).length = l.length := sort_length _ _
  have hn := way_nodes lab (sortLf l) (by omega) hr (ok_of_check h)
  rw [checkP_ok (by rw [hn])]
  have hs : lastSum (nodesS (way (sortLf l) lab) lab).1 = topS (ofS l) := by
    rw [hn, ofS_sort]
    unfold topS lastSum
    by_cases he : sortLf l = []
    · rw [he, realN_nil]; rfl
    · obtain ⟨n, r, e1, e2⟩ := realN_top lab hr he
      rw [e1, if_neg (by simpa using he)]
      simp only [List.reverse_cons, List.getLast?_concat]
      rw [e2]; rfl
  rw [if_neg (by simp [hs])]

/-! ### three leaves -/
def l40 : Lab := setV zL 0 64
def l80 : Lab := setV zL 0 128
def lc0 : Lab := setV zL 0 192
def lfA : Leaf := ⟨zL, zL, 0⟩
def lfB : Leaf := ⟨l40, zL, 5⟩
def lfC : Leaf := ⟨l80, zL, 0⟩
theorem three_sort : sortLf [lfA, lfB, lfC] = [lfA, lfB, lfC] := by decide +kernel
theorem three_check : checkS (ofS [lfA, lfB, lfC]) = 0 := by
  rw [ofS_sort, three_sort]
  decide +kernel
theorem three_rise : Rise Leaf.label [lfA, lfB, lfC] := by
  have := sorted_of_check three_check
  rwa [three_sort] at this
theorem three_fork : fork Leaf.label [lfA, lfB, lfC] = 0 ∧ loL [lfA, lfB, lfC] = [lfA, lfB] ∧ hiL [lfA, lfB, lfC] = [lfC] ∧ fork Leaf.label [lfA, lfB] = 1 ∧ loL [lfA, lfB] = [lfA] ∧ hiL [lfA, lfB] = [lfB] := by decide +kernel
theorem three_bits : bt l40 0 = false ∧ bt l40 1 = true ∧ bt lc0 0 = true ∧ com lfA.label l40 = 1 ∧ l80 ≠ lc0 := by decide +kernel
theorem way_40 : way [lfA, lfB, lfC] l40 = ((⟨1, lfB, zIt, zIt, []⟩ : Proof).adds [tree (lit [lfA])]).adds [tree (lit [lfC])] := by
  obtain ⟨f1, f2, f3, f4, f5, f6⟩ := three_fork
  obtain ⟨b1, b2, b3, b4, b5⟩ := three_bits
  have h1 := three_rise
  have h2 : Rise Leaf.label [lfA, lfB] := h1.sub (by simp)
  rw [way_two h1 (by simp), has_tree h1 (by simp) lfA (by simp), f1, b1, f2, f3, dec_t (Nat.zero_le _), if_neg (by simp), if_neg (by simp)]
  rw [way_two h2 (by simp), has_tree h2 (by simp) lfA (by simp), f4, b2, b4, f5, f6, dec_t (Nat.le_refl _), if_neg (by simp), if_pos rfl, way_one]
theorem way_c0 : way [lfA, lfB, lfC] lc0 = (⟨1, lfC, zIt, zIt, []⟩ : Proof).adds [tree (lit [lfA, lfB])] := by
  obtain ⟨f1, f2, f3, f4, f5, f6⟩ := three_fork
  obtain ⟨b1, b2, b3, b4, b5⟩ := three_bits
  have h1 := three_rise
  rw [way_two h1 (by simp), has_tree h1 (by simp) lfA (by simp), f1, b3, f2, f3, dec_t (Nat.zero_le _), if_neg (by simp), if_pos rfl, way_one]
theorem l18_awake_eq (k : Nat) (hk : 20 ≤ k) : l18_awake k = some true := by
  have hc := three_check
  have hs := three_sort
  have t40 := made_taken [lfA, lfB, lfC] l40 (by simp) hc
  have tc0 := made_taken [lfA, lfB, lfC] lc0 (by simp) hc
  have m40 := proof_Make_eq k [lfA, lfB, lfC] l40 (by simp) (by simp; omega)
  have mc0 := proof_Make_eq k [lfA, lfB, lfC] lc0 (by simp) (by simp; omega)
  rw [if_pos hc, hs, way_40] at m40
  rw [if_pos hc, hs, way_c0] at mc0
  rw [hs, way_40] at t40
  rw [hs, way_c0] at tc0
  rw [if_pos ⟨rfl, rfl⟩] at t40
  rw [if_neg (fun q => three_bits.2.2.2.2 q.2)] at tc0
  unfold l18_awake
  rw [show ([(⟨zL, zL, 0⟩ : Leaf), (⟨(setV zL 0 64), zL, (5 : Int)⟩ : Leaf), (⟨(setV zL 0 128), zL, 0⟩ : Leaf)] : List Leaf) = [lfA, lfB, lfC] from rfl, show (setV zL 0 64 : Lab) = l40 from rfl, show (setV zL 0 192 : Lab) = lc0 from rfl]
  rw [patch_Of_eq k _ (by simp), some_bind, patch_Top_eq k _ (by rw [ofS_length]; simp; omega) (by rw [ofS_length]; simp), some_bind, if_pos hc, m40, some_bind]
  dsimp only
  rw [proof_Check_eq _ _ _ (by simp [Proof.adds]), some_bind, t40, mc0, some_bind]
  dsimp only
  rw [proof_Check_eq _ _ _ (by simp [Proof.adds]), some_bind, tc0]
  rfl
/-- Every input's answer. -/
theorem l18_ProofChecks_true (a b : Lab) (p : Proof) (l : List Leaf) : l18_ProofChecks 20 a b p l = some true := l18_ProofChecks_eq 20 (Nat.le_refl _) a b p l (l18_awake_eq 20 (Nat.le_refl _))
end
end Go.Ch
end
section
/- ProofChecks: whatever the input, it returns true, and the input reads as it did. -/
set_option linter.unusedVariables false
set_option linter.unusedSimpArgs false
set_option maxRecDepth 100000
namespace Go.Proofs.YtchjaknlegaegaaGreat
open Go.Ch Go.ChangeShapes Go.WideShapes Go.ChangeAt Go.RowKit

theorem Tryz.own : ownKnob Tryz.prog.godebug = none := by kernel_rfl
theorem Tryz.laidOut : laidOutB Tryz.prog = true := by kernel_rfl
theorem labT : LabT Tryz.prog 23 := ⟨⟨_, Tryz.underlying23, Tryz.underlying5, by kernel_rfl, by kernel_rfl⟩⟩
theorem intT : I64T Tryz.prog 3 := ⟨Tryz.underlying3⟩
theorem leafT : FlT Tryz.prog 25 [(23, 0, 32), (23, 32, 32), (3, 64, 1)] 65 := ⟨⟨_, Tryz.underlying25, by kernel_rfl, by kernel_rfl, by kernel_rfl⟩⟩
theorem pfxT : FlT Tryz.prog 27 [(3, 0, 1), (23, 1, 32)] 33 := ⟨⟨_, Tryz.underlying27, by kernel_rfl, by kernel_rfl, by kernel_rfl⟩⟩
theorem itemT : FlT Tryz.prog 29 [(27, 0, 33), (23, 33, 32), (3, 65, 1)] 66 := ⟨⟨_, Tryz.underlying29, by kernel_rfl, by kernel_rfl, by kernel_rfl⟩⟩
theorem innerT : FlT Tryz.prog 31 [(29, 0, 66), (29, 66, 66)] 132 := ⟨⟨_, Tryz.underlying31, by kernel_rfl, by kernel_rfl, by kernel_rfl⟩⟩
theorem proofT : FlT Tryz.prog 34 [(3, 0, 1), (25, 1, 65), (31, 66, 132), (32, 198, 1)] 199 := ⟨⟨_, Tryz.underlying34, by kernel_rfl, by kernel_rfl, by kernel_rfl⟩⟩

theorem proofChecks_lifted (os : Os) (started : os.Started) (H : Type) (enc : TypeId × Value → H) :
    ReturnsInHanded {} Tryz.checked os 3 .any (Rows.proofChecksSpec.pre6 enc Tryz.prog Tryz.f3 Rows.proofChecksRow.domain false) (Rows.proofChecksSpec.post enc Tryz.prog Tryz.f3 false true false false) := by
  refine returnsInHanded_of_change (C := Tryz.checked) Tryz.own started (by kernel_rfl) Tryz.func3
    (ChangeSpec.witness6 (enc := enc) (C := Tryz.checked) false ⟨#[], #[aggV [sL zL], aggV [sL zL], aggV [sV (.int .i64 0), sL zL, sL zL, sV (.int .i64 0), sV (.int .i64 0), sL zL, sL zL, sV (.int .i64 0), sV (.int .i64 0), sL zL, sL zL, sV (.int .i64 0), sV (.slice none 0 0)], .slice none 0 0], []⟩ 12 (by kernel_rfl) (by kernel_rfl) (by kernel_rfl) (by kernel_rfl)) ?_
  intro W base args ds gs before hval0 hW hcnd _
  have hval : ∀ (j : Nat) t v, Tryz.f3.params[j]? = some t → args[j]? = some v → Value.okWide Tryz.prog W .any base t v := hval0
  have hW' := hW
  obtain ⟨p, q, hA0, hV, rfl, hfz, hnd⟩ := hW
  have hA : DataW.TrodAll enc Tryz.prog W 0 (fun _ => true) true Tryz.f3.params.toList args.toList ds p := hA0
  rw [Tryz.params3] at hA hval
  obtain ⟨v0, v1, v2, v3, d0, d1, d2, d3, p0, p1, p2, p3, rfl, rfl, rfl, h0, h1, h2, h3⟩ := trodAll_four hA
  obtain ⟨a0, rfl⟩ := arg_lab (u := 5) labT (hval 0 23 v0 rfl rfl) h0
  obtain ⟨a1, rfl⟩ := arg_lab (u := 5) labT (hval 1 23 v1 rfl rfl) h1
  obtain ⟨f2, h2⟩ := h2
  obtain ⟨a2, w2, hc2, hs2, _, ok2⟩ := trod_proof proofT leafT innerT itemT pfxT labT intT Tryz.underlying32 h2
  obtain ⟨cs2, hv2⟩ := arg_agg (.inl ⟨_, Tryz.underlying34⟩) (hval 2 34 v2 rfl rfl)
  have e2 := agg_of hv2 hc2
  obtain ⟨a3, hs3, ok3⟩ := arg_slice Tryz.underlying35 (Opn.leaf leafT labT intT) (hval 3 35 v3 rfl rfl) h3
  have hk := l18_ProofChecks_ok 20 a0 a1 a2 a3 (S := hp W) hs2 hs3 (l18_ProofChecks_true a0 a1 a2 a3)
  rw [← e2] at hk
  exact law_calls (tb := 4) Tryz.laidOut hW' rfl ⟨rfl, rfl, rfl⟩ (by kernel_rfl) rfl Tryz.underlying4 hk

theorem proofChecks_holds : Rows.ProofChecksSaid :=
  OpenClaim.holds_of_wide 3 Tryz.f3 rfl rfl rfl rfl rfl rfl rfl ⟨rfl, rfl, rfl, rfl, rfl⟩ rfl rfl rfl rfl rfl (by kernel_rfl) Tryz.func3 (by kernel_rfl)
    (of_decide_eq_true (by kernel_rfl)) (by unfold Func.isWrapper; first | (rw [if_pos (by decide +kernel)]; kernel_rfl) | (rw [if_neg (by decide +kernel)]; exact ⟨rfl, rfl⟩))
    (fun os started H enc _ => proofChecks_lifted os started H enc)
#print axioms proofChecks_holds
end Go.Proofs.YtchjaknlegaegaaGreat
end
