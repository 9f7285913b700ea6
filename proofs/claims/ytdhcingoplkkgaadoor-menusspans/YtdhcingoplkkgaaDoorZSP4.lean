import Derived.MakeChecks
import Derived.Test.YtdhcingoplkkgaaDoorZSP3
set_option linter.unusedSimpArgs false
set_option linter.unusedVariables false
namespace Go.VI
open Go.Proofs Go.Shelf Go.RowKit Go.Lib
section
variable {E : Env} {I : Imm} {η : Eta} {H : Hp} {w : World}
theorem conc_new (hC : Conc E I η H w) {w2 : World} (hb : Below w.heap.size w w2) {g : Nat} (hg : w.heap.size ≤ g) {o : Obj} (hgo : w2.heap[g]? = some o) : After E I η H w H w2 fun I' η' => (∀ b, I' b = if b = g then some o else I b) ∧ I.le I' := by
  have ho := hb.block
  let I' : Imm := fun b => if b = g then some o else I b
  have hlt : ∀ b o, I b = some o → b < w.heap.size := fun b o hb => (Array.getElem?_eq_some_iff.1 (hC.imm b o hb)).1
  have hle : I.le I' := fun b o hb => by
    have := hlt b o hb
    show (if _ then _ else _) = _
    rw [if_neg (by omega)]; exact hb
  have hm : Mono I η H I' η H := mono_of hle (Nat.le_refl _) fun c hc => CStep.same rfl rfl
  refine ⟨I', η, ⟨fun b o' hb' => ?_, fun c x hx => (hC.ch c x hx).mono rfl hle hm fun b n h => ho b (hC.sep _ _ _ h).2.1, hC.inj, fun c b n hh => ?_, fun g cells hg => (hC.glob g cells hg).mono hle⟩,
    ⟨hb.os, hb.tape, hb.output, hb.size, fun b hb _ => ho b hb, hle, fun b hb' => ?_, fun c b n hh => .inr ⟨_, _, hh⟩⟩, hm, fun b => rfl, hle⟩
  · have hb'' : (if b = g then some o else I b) = some o' := hb'
    by_cases he : b = g
    · rw [if_pos he] at hb''
      rw [he, hgo]; exact hb''
    · rw [if_neg he] at hb''
      rw [ho b (hlt b o' hb'')]; exact hC.imm b o' hb''
  · obtain ⟨h1, h2, h3⟩ := hC.sep _ _ _ hh
    refine ⟨?_, Nat.lt_of_lt_of_le h2 hb.size, h3⟩
    show (if _ then _ else _) = _
    rw [if_neg (by omega)]; exact h1
  · by_cases he : b = g
    · exact .inr (.inl (by omega))
    · have hb'' : (if b = g then some o else I b) ≠ none := hb'
      rw [if_neg he] at hb''
      exact .inl hb''
theorem rel_one {a : IV} {v : Value} (h : RelI I a v) : v.oneCell' = true := by
  cases h
  · assumption
  all_goals rfl
end
theorem ext_clone : Ext1 E 25 (extClone 3) := by
  intro args H r H' hr I η w vs hC hA
  unfold extClone at hr
  split at hr
  · rename_i z rows ex
    split at hr
    · rename_i hc
      obtain ⟨rfl, hc2⟩ := hc
      cases hr
      obtain ⟨y, rfl, r1⟩ := args_one hA
      cases relA_i r1 with
      | nil _ _ a cap hx =>
        cases a with
        | none =>
          refine (clone_nil 0 cap w).mono fun e w' ⟨h1, h2⟩ => ?_
          subst h1 h2
          exact ⟨_, rfl, After.refl hC (.i _ _ (.nil _ _ _ _ (fun h => by cases h)))⟩
        | some ad =>
          refine (clone_walk ad 0 cap [] w rfl (by decide) (fun j u hj => by cases hj) (fun u hu => by cases hu)).mono fun e w' ⟨v', he, hown, hbel⟩ => ?_
          subst he
          obtain ⟨_, hv⟩ := hown
          obtain ⟨I', η', k1, k2, k3, rfl, rfl⟩ := conc_below hC hbel
          rcases hv with ⟨rfl, _⟩ | ⟨g, cap', cur, rfl, _⟩
          · exact ⟨_, rfl, _, _, k1, k2, k3, .i _ _ (.nil _ _ _ _ (fun h => by cases h))⟩
          · exact ⟨_, rfl, _, _, k1, k2, k3, .i _ _ (.nil _ _ _ _ (fun h => by cases h))⟩
      | sl _ _ _ b off cap cs elem fz cv hI hcap hx hrr h1 h2 =>
        have hblk := hC.imm b _ hI
        have hz3 : ∀ i k, i < rows.length → k < 3 → cs[off + i * 3 + k]? = some (cv i k) ∧ (cv i k).oneCell' = true := by
          intro i k hi hk
          have hget : rows[i]? = some rows[i] := List.getElem?_eq_getElem hi
          have hlen := hrr i _ hget
          have hgk : rows[i][k]? = some rows[i][k] := List.getElem?_eq_getElem (by omega)
          exact ⟨h1 i _ k _ hget hgk, rel_one (h2 i _ k _ hget hgk)⟩
        have hzs : ∀ j, j < rows.length * 3 → cs[off + j]? = some (cv (j / 3) (j % 3)) ∧ (cv (j / 3) (j % 3)).oneCell' = true := by
          intro j hj
          have := hz3 (j / 3) (j % 3) (by omega) (Nat.mod_lt _ (by decide))
          rw [show off + j / 3 * 3 + j % 3 = off + j from by omega] at this
          exact this
        have hgetz : ∀ j u, ((List.range (rows.length * 3)).map fun j => cv (j / 3) (j % 3))[j]? = some u → j < rows.length * 3 ∧ u = cv (j / 3) (j % 3) := by
          intro j u hj
          rw [List.getElem?_map] at hj
          by_cases hlt : j < rows.length * 3
          · rw [List.getElem?_range hlt] at hj
            simp only [Option.map_some, Option.some.injEq] at hj
            exact ⟨hlt, hj.symm⟩
          · rw [List.getElem?_eq_none (by simp; omega)] at hj; cases hj
        refine (clone_walk ⟨b, off, none⟩ rows.length cap ((List.range (rows.length * 3)).map fun j => cv (j / 3) (j % 3)) w (by simp) hc2 (fun j u hj => ?_) (fun u hu => ?_)).mono fun e w' ⟨v', he, hown, hbel⟩ => ?_
        · obtain ⟨hlt, rfl⟩ := hgetz j u hj
          rw [Addr.add_lit]
          simp [World.cell?, hblk, (hzs j hlt).1]
        · obtain ⟨j, hj⟩ := List.getElem?_of_mem hu
          obtain ⟨hlt, rfl⟩ := hgetz j u hj
          exact (hzs j hlt).2
        · subst he
          obtain ⟨_, hv⟩ := hown
          rcases hv with ⟨rfl, hn0⟩ | ⟨g, cap', cur, rfl, hge, hcur, hcap', _, hsz, htk⟩
          · obtain rfl : rows = [] := List.length_eq_zero_iff.1 hn0
            obtain ⟨I', η', k1, k2, k3, rfl, rfl⟩ := conc_below hC hbel
            exact ⟨_, rfl, _, _, k1, k2, k3, .i _ _ (.nil _ _ _ _ (fun h => by cases h))⟩
          · obtain ⟨I', η', k1, k2, k3, hI', hle⟩ := conc_new hC hbel hge hcur
            refine ⟨_, rfl, _, _, k1, k2, k3, .i _ _ ?_⟩
            refine .sl 3 rows false g 0 cap' cur 45 (0, 0) cv (by rw [hI', if_pos rfl]) hcap' (fun h => by cases h) hrr (fun i r k a hi hk => ?_) (fun i r k a hi hk => (h2 i r k a hi hk).mono hle)
            have hil : i < rows.length := (List.getElem?_eq_some_iff.1 hi).1
            have hkl : k < 3 := by
              have := (List.getElem?_eq_some_iff.1 hk).1
              rw [hrr i r hi] at this; exact this
            have hj : i * 3 + k < rows.length * 3 := by omega
            have : (cur.toList.take (rows.length * 3))[i * 3 + k]? = some (cv i k) := by
              rw [htk, List.getElem?_map, List.getElem?_range hj]
              simp only [Option.map_some, Option.some.injEq]
              rw [show (i * 3 + k) / 3 = i from by omega, show (i * 3 + k) % 3 = k from by omega]
            rw [List.getElem?_take_of_lt hj] at this
            rw [Nat.zero_add]
            simpa using this
    · cases hr
  · cases hr
end Go.VI

set_option linter.unusedSimpArgs false
set_option linter.unusedVariables false
namespace Go.VI
open Go.Proofs
theorem extOK : ExtOK E := by
  intro f h hf
  rcases E_extI f h hf with ⟨rfl, rfl⟩ | ⟨rfl, rfl⟩ | h2
  · exact ext_text
  · exact ext_clone
  · exact h2.elim
end Go.VI

namespace Go.VI
open Go.Proofs
set_option maxRecDepth 100000
set_option linter.unusedSimpArgs false
set_option linter.unusedVariables false
set_option maxHeartbeats 4000000
abbrev Gl := List UInt8 × Bool × Int
def rowsG (l : List Gl) : List (List IV) := l.map fun g => [.str g.1, .v (.bool g.2.1), .v (.int .i64 g.2.2)]
theorem rowsG_len (l : List Gl) : (rowsG l).length = l.length := by simp [rowsG]
theorem rowsG_at {l : List Gl} {k : Nat} (h : k < l.length) : (rowsG l)[k]? = some [.str l[k].1, .v (.bool l[k].2.1), .v (.int .i64 l[k].2.2)] := by simp [rowsG, h]
abbrev Sp := Nat × Nat
def rowsP (l : List Sp) : List (List IV) := l.map fun p => [.v (.int .i64 p.1), .v (.int .i64 p.2)]
theorem rowsP_len (l : List Sp) : (rowsP l).length = l.length := by simp [rowsP]
theorem rowsP_at {l : List Sp} {k : Nat} (h : k < l.length) : (rowsP l)[k]? = some [.v (.int .i64 l[k].1), .v (.int .i64 l[k].2)] := by simp [rowsP, h]
theorem rowsP_snoc (l : List Sp) (a b : Nat) : rowsP l ++ [[.v (.int .i64 a), .v (.int .i64 b)]] = rowsP (l ++ [(a, b)]) := by simp [rowsP]
theorem rowsP_last (l : List Sp) (p : Sp) : (rowsP (l ++ [p]))[l.length]? = some [.v (.int .i64 p.1), .v (.int .i64 p.2)] := by simp [rowsP]
theorem rowsP_bump (l : List Sp) (a b c : Nat) : (rowsP (l ++ [(a, b)])).set l.length [.v (.int .i64 a), .v (.int .i64 c)] = rowsP (l ++ [(a, c)]) := by simp [rowsP]
def tlS (cur : Option Nat) (i : Nat) : List Sp := match cur with | none => [] | some f => [(f, i)]
def spansL : List Gl → Nat → Option Nat → List Sp
  | [], i, cur => tlS cur i
  | g :: r, i, cur => if g.2.2 = 2 then spansL r (i + 1) (some (cur.getD i)) else tlS cur i ++ spansL r (i + 1) none
def spansS (l : List Gl) : List Sp := spansL l 0 none
theorem tlS_len (cur : Option Nat) (i : Nat) : (tlS cur i).length ≤ 1 := by cases cur <;> simp [tlS]
def atG (l : List Gl) (k : Nat) : Gl := l.getD k ([], false, 0)
theorem atG_eq {l : List Gl} {k : Nat} (h : k < l.length) : atG l k = l[k] := by rw [atG, List.getD_eq_getElem?_getD, List.getElem?_eq_getElem h]; rfl
theorem rowsG_D {l : List Gl} {k : Nat} (h : k < l.length) : (rowsG l)[k]? = some [.str (atG l k).1, .v (.bool (atG l k).2.1), .v (.int .i64 (atG l k).2.2)] := by rw [atG_eq h]; exact rowsG_at h
theorem drop_G {l : List Gl} {k : Nat} (h : k < l.length) : l.drop k = atG l k :: l.drop (k + 1) := by rw [atG_eq h]; exact List.drop_eq_getElem_cons h
def curOK (l : List Gl) (k : Nat) (cur : Option Nat) : Prop := (cur = none ∧ (0 < k → (atG l (k - 1)).2.2 ≠ 2)) ∨ ∃ f, cur = some f ∧ f < k ∧ (atG l (k - 1)).2.2 = 2
theorem l14 (l : List Gl) (hl : l.length ≤ 1000000) : ∀ (n k : Nat) (dn : List Sp) (cur : Option Nat), k + n = l.length → curOK l k cur → dn.length + n ≤ 2000000 →
    rl E 0 14 (loopAt Tryd.f14 0) [(0, .i (.sl 3 (rowsG l) false)), (3, .ref 0 0 0 (dn ++ tlS cur k).length), (6, .i (.sl 3 (rowsG l) false)), (7, .i (.v (.int .i64 l.length))), (8, .i (.v (.int .i64 k)))] [.sl 2 0 (rowsP (dn ++ tlS cur k)) false] =
      some (.exit 0, [(0, .i (.sl 3 (rowsG l) false)), (3, .ref 0 0 0 (dn ++ spansL (l.drop k) k cur).length), (6, .i (.sl 3 (rowsG l) false)), (7, .i (.v (.int .i64 l.length))), (8, .i (.v (.int .i64 l.length))), (9, .i (.v (.bool false)))], [.sl 2 0 (rowsP (dn ++ spansL (l.drop k) k cur)) false]) := by
  intro n
  induction n with
  | zero =>
    intro k dn cur hk hc hd
    obtain rfl : k = l.length := by omega
    rw [List.drop_length, spansL]
    rw [rl_step (fn := Tryd.f14) (k := 0) rfl]
    simp (disch := first | omega | (simp only [List.length_append, List.length_map, List.length_set, List.length_cons, List.length_nil, List.length_take, List.length_drop, rowsG_len, rowsP_len]; omega)) only [va0, va1, va2, va3, va4, va5, va6, va7, va8, va9, va10, va11, va12, va13, va14, va15, vb0, vb1, vb2, vb3, w_i8, w_u8, w_i16, w_u16, w_i32, w_u32, w_i64, w_u64, lt_T, lt_F, le_T, le_F, nlt_T, nlt_F, nle_T, nle_F, List.take_of_length_le, gB, gcW, gcR, posIn, renA, renL, Chunk.ren, Chunk.refs, evOpD, touchD, stepC, isFresh, nFresh, freshOf, mkR, hole, evL, evH, opd, get, putD, ofVal, cellOf, loadE, behind, lenE, idxAddrE, idxE, lookE, lookM, addPtr, intE, strE, unE, convE, AV.int, AV.bool, AV.str, ivs, take, frameOf, firstRegion, refsA, refsL, one, cellsA, floatOk, apartT, List.map, if_true, if_false, E_P, E_glob, reduceCtorEq, beq_self_eq_true, decide_true, decide_false, ↓reduceIte, Nat.reduceEqDiff, cond_true, cond_false, or_true, true_or, or_false, false_or, and_true, true_and, and_self, false_and, and_false, not_true, not_false_iff, Nat.reduceAdd, Nat.reduceSub, Nat.reduceMul, Nat.reduceLT, Nat.reduceLeDiff, Int.reduceToNat, Int.reduceLT, Int.reduceLE, Option.getD, Int.reduceMul, Int.reduceAdd, List.drop, List.take, Nat.reduceBEq, List.isEmpty, Int.reduceEq, Int.reduceNe, Int.reduceNeg, Int.reduceGT, Int.reduceGE, beq_true, beq_false, UInt8.reduceToNat, eqE, eq_self, foldE, maxE, minE, eq_T, eq_F, ndec, odec, adec, sdec, fillA, over, chop, List.replicate, leavesOk, leafOk, cellsEq, cellEq, E_byref, en14, bs36, bs38, rowsG_len, rowsP_len, show ∀ B fr H, execT E B 14 (Code.loop _) fr H = rlM E B 14 (loopAt Tryd.f14 0) [0, 3, 6, 7, 8] [] (matF [(3, 2)] fr H).1 (matB [] (matF [(3, 2)] fr H).1 (matF [(3, 2)] fr H).2) from fun B fr H => rl_introM rfl mt14_3 mb14_3 zf14_3 hd14_3 fr H]
  | succ n ih =>
    intro k dn cur hk hc hd
    have hlt : k < l.length := by omega
    have hrow := rowsG_D hlt
    have htl := tlS_len cur k
    rw [drop_G hlt, spansL]
    by_cases h2 : (atG l k).2.2 = 2
    · rw [if_pos h2]
      have e := ih (k + 1) dn (some (cur.getD k)) (by omega) (.inr ⟨_, rfl, by
        rcases hc with ⟨rfl, _⟩ | ⟨f, rfl, hf, _⟩
        · simp
        · simp; omega, h2⟩) (by omega)
      refine Eq.trans ?_ e
      clear e ih
      rcases hc with ⟨rfl, hp⟩ | ⟨f, rfl, hf, hp⟩
      · rw [show tlS none k = [] from rfl, List.append_nil, show tlS (some ((none : Option Nat).getD k)) (k + 1) = [(k, k + 1)] from rfl]
        have hsn := rowsP_snoc dn k (k + 1)
        have htk : List.take dn.length (rowsP dn) = rowsP dn := List.take_of_length_le (by rw [rowsP_len]; exact Nat.le_refl _)
        by_cases k0 : k = 0
        · subst k0
          generalize atG l 0 = g at *
          have hsn0 : rowsP dn ++ [[.v (.int .i64 0), .v (.int .i64 1)]] = rowsP (dn ++ [(0, 0 + 1)]) := hsn
          rw [rl_step (fn := Tryd.f14) (k := 0) rfl]
          simp (disch := first | omega | (simp only [List.length_append, List.length_map, List.length_set, List.length_cons, List.length_nil, List.length_take, List.length_drop, rowsG_len, rowsP_len]; omega)) only [va0, va1, va2, va3, va4, va5, va6, va7, va8, va9, va10, va11, va12, va13, va14, va15, vb0, vb1, vb2, vb3, w_i8, w_u8, w_i16, w_u16, w_i32, w_u32, w_i64, w_u64, lt_T, lt_F, le_T, le_F, nlt_T, nlt_F, nle_T, nle_F, List.take_of_length_le, gB, gcW, gcR, posIn, renA, renL, Chunk.ren, Chunk.refs, evOpD, touchD, stepC, isFresh, nFresh, freshOf, mkR, hole, evL, evH, opd, get, putD, ofVal, cellOf, loadE, behind, lenE, idxAddrE, idxE, lookE, lookM, addPtr, intE, strE, unE, convE, AV.int, AV.bool, AV.str, ivs, take, frameOf, firstRegion, refsA, refsL, one, cellsA, floatOk, apartT, List.map, if_true, if_false, E_P, E_glob, reduceCtorEq, beq_self_eq_true, decide_true, decide_false, ↓reduceIte, Nat.reduceEqDiff, cond_true, cond_false, or_true, true_or, or_false, false_or, and_true, true_and, and_self, false_and, and_false, not_true, not_false_iff, Nat.reduceAdd, Nat.reduceSub, Nat.reduceMul, Nat.reduceLT, Nat.reduceLeDiff, Int.reduceToNat, Int.reduceLT, Int.reduceLE, Option.getD, Int.reduceMul, Int.reduceAdd, List.drop, List.take, Nat.reduceBEq, List.isEmpty, Int.reduceEq, Int.reduceNe, Int.reduceNeg, Int.reduceGT, Int.reduceGE, beq_true, beq_false, UInt8.reduceToNat, eqE, eq_self, foldE, maxE, minE, eq_T, eq_F, ndec, odec, adec, sdec, fillA, over, chop, List.replicate, leavesOk, leafOk, cellsEq, cellEq, E_byref, en14, bs36, bs38, hrow, hsn0, htk, List.length_append, List.length_singleton, Int.toNat_natCast, rowsG_len, rowsP_len, show ∀ B fr H, execT E B 14 (Code.loop _) fr H = rlM E B 14 (loopAt Tryd.f14 0) [0, 3, 6, 7, 8] [] (matF [(3, 2)] fr H).1 (matB [] (matF [(3, 2)] fr H).1 (matF [(3, 2)] fr H).2) from fun B fr H => rl_introM rfl mt14_3 mb14_3 zf14_3 hd14_3 fr H]
        · obtain ⟨m, rfl⟩ : ∃ m, k = m + 1 := ⟨k - 1, by omega⟩
          have hlt2 : m < l.length := by omega
          have hrow1 := rowsG_D hlt2
          have hp2 := hp (by omega)
          rw [show m + 1 - 1 = m from rfl] at hp2
          generalize atG l (m + 1) = g at *
          generalize atG l m = g1 at *
          have hsn1 : rowsP dn ++ [[.v (.int .i64 ((m + 1 : Nat) : Int)), .v (.int .i64 ((m + 1 + 1 : Nat) : Int))]] = rowsP (dn ++ [(m + 1, m + 1 + 1)]) := hsn
          have hm1 : ((m + 1 : Nat) : Int) - 1 = (m : Nat) := by omega
          rw [rl_step (fn := Tryd.f14) (k := 0) rfl]
          simp (disch := first | omega | (simp only [List.length_append, List.length_map, List.length_set, List.length_cons, List.length_nil, List.length_take, List.length_drop, rowsG_len, rowsP_len]; omega)) only [va0, va1, va2, va3, va4, va5, va6, va7, va8, va9, va10, va11, va12, va13, va14, va15, vb0, vb1, vb2, vb3, w_i8, w_u8, w_i16, w_u16, w_i32, w_u32, w_i64, w_u64, lt_T, lt_F, le_T, le_F, nlt_T, nlt_F, nle_T, nle_F, List.take_of_length_le, gB, gcW, gcR, posIn, renA, renL, Chunk.ren, Chunk.refs, evOpD, touchD, stepC, isFresh, nFresh, freshOf, mkR, hole, evL, evH, opd, get, putD, ofVal, cellOf, loadE, behind, lenE, idxAddrE, idxE, lookE, lookM, addPtr, intE, strE, unE, convE, AV.int, AV.bool, AV.str, ivs, take, frameOf, firstRegion, refsA, refsL, one, cellsA, floatOk, apartT, List.map, if_true, if_false, E_P, E_glob, reduceCtorEq, beq_self_eq_true, decide_true, decide_false, ↓reduceIte, Nat.reduceEqDiff, cond_true, cond_false, or_true, true_or, or_false, false_or, and_true, true_and, and_self, false_and, and_false, not_true, not_false_iff, Nat.reduceAdd, Nat.reduceSub, Nat.reduceMul, Nat.reduceLT, Nat.reduceLeDiff, Int.reduceToNat, Int.reduceLT, Int.reduceLE, Option.getD, Int.reduceMul, Int.reduceAdd, List.drop, List.take, Nat.reduceBEq, List.isEmpty, Int.reduceEq, Int.reduceNe, Int.reduceNeg, Int.reduceGT, Int.reduceGE, beq_true, beq_false, UInt8.reduceToNat, eqE, eq_self, foldE, maxE, minE, eq_T, eq_F, ndec, odec, adec, sdec, fillA, over, chop, List.replicate, leavesOk, leafOk, cellsEq, cellEq, E_byref, en14, bs36, bs38, hrow, hrow1, hp2, hsn1, hm1, htk, List.length_append, List.length_singleton, Int.toNat_natCast, rowsG_len, rowsP_len, show ∀ B fr H, execT E B 14 (Code.loop _) fr H = rlM E B 14 (loopAt Tryd.f14 0) [0, 3, 6, 7, 8] [] (matF [(3, 2)] fr H).1 (matB [] (matF [(3, 2)] fr H).1 (matF [(3, 2)] fr H).2) from fun B fr H => rl_introM rfl mt14_3 mb14_3 zf14_3 hd14_3 fr H]
      · obtain ⟨m, rfl⟩ : ∃ m, k = m + 1 := ⟨k - 1, by omega⟩
        have hlt2 : m < l.length := by omega
        have hrow1 := rowsG_D hlt2
        rw [show m + 1 - 1 = m from rfl] at hp
        rw [show tlS (some f) (m + 1) = [(f, m + 1)] from rfl, show tlS (some ((some f).getD (m + 1))) (m + 1 + 1) = [(f, m + 1 + 1)] from rfl]
        have hla := rowsP_last dn (f, m + 1)
        have hbu : (rowsP (dn ++ [(f, m + 1)])).set dn.length [.v (.int .i64 (f : Nat)), .v (.int .i64 ((m + 1 + 1 : Nat) : Int))] = rowsP (dn ++ [(f, m + 1 + 1)]) := rowsP_bump dn f (m + 1) (m + 1 + 1)
        have hm1 : ((m + 1 : Nat) : Int) - 1 = (m : Nat) := by omega
        have hd1 : ((dn.length + 1 : Nat) : Int) - 1 = (dn.length : Nat) := by omega
        generalize atG l (m + 1) = g at *
        generalize atG l m = g1 at *
        rw [rl_step (fn := Tryd.f14) (k := 0) rfl]
        simp (disch := first | omega | (simp only [List.length_append, List.length_map, List.length_set, List.length_cons, List.length_nil, List.length_take, List.length_drop, rowsG_len, rowsP_len]; omega)) only [va0, va1, va2, va3, va4, va5, va6, va7, va8, va9, va10, va11, va12, va13, va14, va15, vb0, vb1, vb2, vb3, w_i8, w_u8, w_i16, w_u16, w_i32, w_u32, w_i64, w_u64, lt_T, lt_F, le_T, le_F, nlt_T, nlt_F, nle_T, nle_F, List.take_of_length_le, gB, gcW, gcR, posIn, renA, renL, Chunk.ren, Chunk.refs, evOpD, touchD, stepC, isFresh, nFresh, freshOf, mkR, hole, evL, evH, opd, get, putD, ofVal, cellOf, loadE, behind, lenE, idxAddrE, idxE, lookE, lookM, addPtr, intE, strE, unE, convE, AV.int, AV.bool, AV.str, ivs, take, frameOf, firstRegion, refsA, refsL, one, cellsA, floatOk, apartT, List.map, if_true, if_false, E_P, E_glob, reduceCtorEq, beq_self_eq_true, decide_true, decide_false, ↓reduceIte, Nat.reduceEqDiff, cond_true, cond_false, or_true, true_or, or_false, false_or, and_true, true_and, and_self, false_and, and_false, not_true, not_false_iff, Nat.reduceAdd, Nat.reduceSub, Nat.reduceMul, Nat.reduceLT, Nat.reduceLeDiff, Int.reduceToNat, Int.reduceLT, Int.reduceLE, Option.getD, Int.reduceMul, Int.reduceAdd, List.drop, List.take, Nat.reduceBEq, List.isEmpty, Int.reduceEq, Int.reduceNe, Int.reduceNeg, Int.reduceGT, Int.reduceGE, beq_true, beq_false, UInt8.reduceToNat, eqE, eq_self, foldE, maxE, minE, eq_T, eq_F, ndec, odec, adec, sdec, fillA, over, chop, List.replicate, leavesOk, leafOk, cellsEq, cellEq, E_byref, en14, bs36, bs38, hrow, hrow1, hm1, hd1, hla, hbu, List.length_append, List.length_singleton, Int.toNat_natCast, rowsG_len, rowsP_len, show ∀ B fr H, execT E B 14 (Code.loop _) fr H = rlM E B 14 (loopAt Tryd.f14 0) [0, 3, 6, 7, 8] [] (matF [(3, 2)] fr H).1 (matB [] (matF [(3, 2)] fr H).1 (matF [(3, 2)] fr H).2) from fun B fr H => rl_introM rfl mt14_3 mb14_3 zf14_3 hd14_3 fr H]
    · rw [if_neg h2]
      have e := ih (k + 1) (dn ++ tlS cur k) none (by omega) (.inl ⟨rfl, fun _ => h2⟩) (by rw [List.length_append]; omega)
      rw [show tlS none (k + 1) = [] from rfl, List.append_nil, List.append_assoc] at e
      refine Eq.trans ?_ e
      clear e ih
      generalize atG l k = g at *
      generalize dn ++ tlS cur k = dd at *
      rw [rl_step (fn := Tryd.f14) (k := 0) rfl]
      simp (disch := first | omega | (simp only [List.length_append, List.length_map, List.length_set, List.length_cons, List.length_nil, List.length_take, List.length_drop, rowsG_len, rowsP_len]; omega)) only [va0, va1, va2, va3, va4, va5, va6, va7, va8, va9, va10, va11, va12, va13, va14, va15, vb0, vb1, vb2, vb3, w_i8, w_u8, w_i16, w_u16, w_i32, w_u32, w_i64, w_u64, lt_T, lt_F, le_T, le_F, nlt_T, nlt_F, nle_T, nle_F, List.take_of_length_le, gB, gcW, gcR, posIn, renA, renL, Chunk.ren, Chunk.refs, evOpD, touchD, stepC, isFresh, nFresh, freshOf, mkR, hole, evL, evH, opd, get, putD, ofVal, cellOf, loadE, behind, lenE, idxAddrE, idxE, lookE, lookM, addPtr, intE, strE, unE, convE, AV.int, AV.bool, AV.str, ivs, take, frameOf, firstRegion, refsA, refsL, one, cellsA, floatOk, apartT, List.map, if_true, if_false, E_P, E_glob, reduceCtorEq, beq_self_eq_true, decide_true, decide_false, ↓reduceIte, Nat.reduceEqDiff, cond_true, cond_false, or_true, true_or, or_false, false_or, and_true, true_and, and_self, false_and, and_false, not_true, not_false_iff, Nat.reduceAdd, Nat.reduceSub, Nat.reduceMul, Nat.reduceLT, Nat.reduceLeDiff, Int.reduceToNat, Int.reduceLT, Int.reduceLE, Option.getD, Int.reduceMul, Int.reduceAdd, List.drop, List.take, Nat.reduceBEq, List.isEmpty, Int.reduceEq, Int.reduceNe, Int.reduceNeg, Int.reduceGT, Int.reduceGE, beq_true, beq_false, UInt8.reduceToNat, eqE, eq_self, foldE, maxE, minE, eq_T, eq_F, ndec, odec, adec, sdec, fillA, over, chop, List.replicate, leavesOk, leafOk, cellsEq, cellEq, E_byref, en14, bs36, bs38, hrow, h2, rowsG_len, rowsP_len, show ∀ B fr H, execT E B 14 (Code.loop _) fr H = rlM E B 14 (loopAt Tryd.f14 0) [0, 3, 6, 7, 8] [] (matF [(3, 2)] fr H).1 (matB [] (matF [(3, 2)] fr H).1 (matF [(3, 2)] fr H).2) from fun B fr H => rl_introM rfl mt14_3 mb14_3 zf14_3 hd14_3 fr H]
end Go.VI

namespace Go.VI
open Go.Proofs
set_option maxRecDepth 100000
set_option linter.unusedSimpArgs false
set_option linter.unusedVariables false
set_option maxHeartbeats 4000000
theorem spansL_len : ∀ (l : List Gl) (i : Nat) (cur : Option Nat), (spansL l i cur).length ≤ l.length + (tlS cur i).length
  | [], i, cur => by rw [spansL]; simp
  | g :: r, i, cur => by
    rw [spansL]
    split
    · have := spansL_len r (i + 1) (some (cur.getD i)); rw [List.length_cons]; simp only [tlS, List.length_cons, List.length_nil] at this ⊢; omega
    · have h1 := spansL_len r (i + 1) none
      rw [List.length_append, List.length_cons]
      simp only [tlS, List.length_nil] at h1
      omega
theorem spansS_len (l : List Gl) : (spansS l).length ≤ l.length + 1 := Nat.le_trans (spansL_len l 0 none) (by simp [tlS])
theorem c14 (l : List Gl) (hl : l.length ≤ 1000000) : ∃ L, callT E 14 [.i (.sl 3 (rowsG l) false)] [] = some (.i (.sl 2 (rowsP (spansS l)) false), L) := by
  have h := l14 l hl l.length 0 [] none (by omega) (.inl ⟨rfl, fun h => absurd h (by decide)⟩) (by simp; omega)
  rw [List.drop_zero, List.nil_append, List.nil_append, show spansL l 0 none = spansS l from rfl] at h
  have h' : rl E 0 14 (loopAt Tryd.f14 0) [(0, .i (.sl 3 (rowsG l) false)), (3, .ref 0 0 0 0), (6, .i (.sl 3 (rowsG l) false)), (7, .i (.v (.int .i64 l.length))), (8, .i (.v (.int .i64 0)))] [.sl 2 0 [] false] = _ := h
  have hs := spansS_len l
  have htk : List.take (spansS l).length (rowsP (spansS l)) = rowsP (spansS l) := List.take_of_length_le (by rw [rowsP_len]; exact Nat.le_refl _)
  generalize spansS l = s at *
  rw [callT_eq Tryd.func14 rfl fok14 (by simp [Tryd.ntmps14])]
  simp (disch := first | omega | (simp only [List.length_append, List.length_map, List.length_set, List.length_cons, List.length_nil, List.length_take, List.length_drop, rowsG_len, rowsP_len]; omega)) only [va0, va1, va2, va3, va4, va5, va6, va7, va8, va9, va10, va11, va12, va13, va14, va15, vb0, vb1, vb2, vb3, w_i8, w_u8, w_i16, w_u16, w_i32, w_u32, w_i64, w_u64, lt_T, lt_F, le_T, le_F, nlt_T, nlt_F, nle_T, nle_F, List.take_of_length_le, gB, gcW, gcR, posIn, renA, renL, Chunk.ren, Chunk.refs, evOpD, touchD, stepC, isFresh, nFresh, freshOf, mkR, hole, evL, evH, opd, get, putD, ofVal, cellOf, loadE, behind, lenE, idxAddrE, idxE, lookE, lookM, addPtr, intE, strE, unE, convE, AV.int, AV.bool, AV.str, ivs, take, frameOf, firstRegion, refsA, refsL, one, cellsA, floatOk, apartT, List.map, if_true, if_false, E_P, E_glob, reduceCtorEq, beq_self_eq_true, decide_true, decide_false, ↓reduceIte, Nat.reduceEqDiff, cond_true, cond_false, or_true, true_or, or_false, false_or, and_true, true_and, and_self, false_and, and_false, not_true, not_false_iff, Nat.reduceAdd, Nat.reduceSub, Nat.reduceMul, Nat.reduceLT, Nat.reduceLeDiff, Int.reduceToNat, Int.reduceLT, Int.reduceLE, Option.getD, Int.reduceMul, Int.reduceAdd, List.drop, List.take, Nat.reduceBEq, List.isEmpty, Int.reduceEq, Int.reduceNe, Int.reduceNeg, Int.reduceGT, Int.reduceGE, beq_true, beq_false, UInt8.reduceToNat, eqE, eq_self, foldE, maxE, minE, eq_T, eq_F, ndec, odec, adec, sdec, fillA, over, chop, List.replicate, leavesOk, leafOk, cellsEq, cellEq, E_byref, en14, bs36, bs38, h', htk, rowsG_len, rowsP_len, show ∀ B fr H, execT E B 14 (Code.loop _) fr H = rlM E B 14 (loopAt Tryd.f14 0) [0, 3, 6, 7, 8] [] (matF [(3, 2)] fr H).1 (matB [] (matF [(3, 2)] fr H).1 (matF [(3, 2)] fr H).2) from fun B fr H => rl_introM rfl mt14_3 mb14_3 zf14_3 hd14_3 fr H]
  exact ⟨_, rfl⟩
theorem ik14 (l : List Gl) (hl : l.length ≤ 1000000) (H : Hp) : isoK E (callT E) 14 [.i (.sl 3 (rowsG l) false)] H = some (.i (.sl 2 (rowsP (spansS l)) false), H) := isoK_val rfl rfl rfl (c14 l hl)
theorem ran_true {f n : Nat} (h : (match call E n f [] [] with | some (.i (.v (.bool true)), _) => true | _ => false) = true) : ∃ L, callT E f [] [] = some (.i (.v (.bool true)), L) := by
  split at h
  · rename_i L hL; exact ⟨L, callT_of hL⟩
  · cases h
theorem ik9 (H : Hp) : isoK E (callT E) 9 [] H = some (.i (.v (.bool true)), H) := isoK_val rfl rfl rfl (ran_true (n := 400) (by kernel_rfl))
end Go.VI

namespace Go.VI
open Go.Proofs
set_option maxRecDepth 100000
set_option linter.unusedSimpArgs false
set_option linter.unusedVariables false
set_option maxHeartbeats 4000000
def goodS (n : Nat) : Int → List Sp → Prop
  | _, [] => True
  | last, p :: r => last < p.1 ∧ p.1 < p.2 ∧ p.2 ≤ n ∧ goodS n p.2 r
def covS (s : List Sp) (i : Nat) : Bool := s.any fun p => decide (p.1 ≤ i) && decide (i < p.2)
theorem spans_good (l : List Gl) : ∀ (m k : Nat) (last : Int) (cur : Option Nat), k + m = l.length → (match cur with | none => last < k | some f => last < f ∧ f < k) → goodS l.length last (spansL (l.drop k) k cur) := by
  intro m
  induction m with
  | zero =>
    intro k last cur hk hc
    obtain rfl : k = l.length := by omega
    rw [List.drop_length, spansL]
    cases cur with
    | none => trivial
    | some f => exact ⟨hc.1, hc.2, Nat.le_refl _, trivial⟩
  | succ m ih =>
    intro k last cur hk hc
    rw [drop_G (by omega), spansL]
    split
    · cases cur with
      | none => exact ih (k + 1) last _ (by omega) ⟨hc, by simp⟩
      | some f => exact ih (k + 1) last _ (by omega) ⟨hc.1, by simp only [Option.getD_some]; have := hc.2; omega⟩
    · cases cur with
      | none => exact ih (k + 1) last none (by omega) (by simp only at hc ⊢; omega)
      | some f => exact ⟨hc.1, hc.2, by simp only; omega, ih (k + 1) k none (by omega) (by simp only; omega)⟩
theorem spans_cov (l : List Gl) (i : Nat) (hi : i < l.length) : ∀ (m k : Nat) (cur : Option Nat), k + m = l.length → (∀ f, cur = some f → f < k) →
    covS (spansL (l.drop k) k cur) i = (decide (∃ f, cur = some f ∧ f ≤ i ∧ i < k) || decide (k ≤ i ∧ (atG l i).2.2 = 2)) := by
  intro m
  induction m with
  | zero =>
    intro k cur hk hc
    obtain rfl : k = l.length := by omega
    rw [List.drop_length, spansL, decide_eq_false (show ¬ (l.length ≤ i ∧ (atG l i).2.2 = 2) from fun h => by omega), Bool.or_false]
    cases cur with
    | none => simp [tlS, covS]
    | some f => simp [tlS, covS]
  | succ m ih =>
    intro k cur hk hc
    rw [drop_G (by omega), spansL]
    by_cases h2 : (atG l k).2.2 = 2
    · rw [if_pos h2, ih (k + 1) _ (by omega) (fun f hf => by
        injection hf with hf
        cases cur with
        | none => simp at hf; omega
        | some f2 => simp at hf; have := hc f2 rfl; omega)]
      rw [Bool.eq_iff_iff, Bool.or_eq_true, Bool.or_eq_true, decide_eq_true_iff, decide_eq_true_iff, decide_eq_true_iff, decide_eq_true_iff]
      cases cur with
      | none =>
        simp only [Option.getD_none, Option.some.injEq, reduceCtorEq, false_and, exists_const, false_or]
        constructor
        · rintro (⟨f, rfl, h3, h4⟩ | ⟨h3, h4⟩)
          · obtain rfl : i = k := by omega
            exact ⟨Nat.le_refl _, h2⟩
          · exact ⟨by omega, h4⟩
        · rintro ⟨h3, h4⟩
          by_cases he : i = k
          · exact .inl ⟨k, rfl, by omega, by omega⟩
          · exact .inr ⟨by omega, h4⟩
      | some f =>
        have hf := hc f rfl
        simp only [Option.getD_some, Option.some.injEq]
        constructor
        · rintro (⟨f', rfl, h3, h4⟩ | ⟨h3, h4⟩)
          · by_cases he : i = k
            · subst he; exact .inr ⟨Nat.le_refl _, h2⟩
            · exact .inl ⟨f, rfl, h3, by omega⟩
          · exact .inr ⟨by omega, h4⟩
        · rintro (⟨f', rfl, h3, h4⟩ | ⟨h3, h4⟩)
          · exact .inl ⟨f, rfl, h3, by omega⟩
          · by_cases he : i = k
            · exact .inl ⟨f, rfl, by omega, by omega⟩
            · exact .inr ⟨by omega, h4⟩
    · rw [if_neg h2]
      have e := ih (k + 1) none (by omega) (fun f hf => by cases hf)
      have happ : ∀ a b : List Sp, covS (a ++ b) i = (covS a i || covS b i) := fun a b => by simp [covS]
      rw [happ, e]
      rw [Bool.eq_iff_iff, Bool.or_eq_true, Bool.or_eq_true, Bool.or_eq_true, decide_eq_true_iff, decide_eq_true_iff, decide_eq_true_iff, decide_eq_true_iff]
      have hk2 : (k + 1 ≤ i ∧ (atG l i).2.2 = 2) ↔ (k ≤ i ∧ (atG l i).2.2 = 2) := by
        constructor
        · rintro ⟨h3, h4⟩; exact ⟨by omega, h4⟩
        · rintro ⟨h3, h4⟩
          refine ⟨?_, h4⟩
          by_cases he : i = k
          · subst he; exact absurd h4 h2
          · omega
      rw [hk2]
      cases cur with
      | none => simp [tlS, covS]
      | some f => simp [tlS, covS]
def markS (s : List Bool) (a : Nat) : Nat → List Bool
  | 0 => s
  | n + 1 => markS (s.set a true) (a + 1) n
theorem markS_len : ∀ (n a : Nat) (s : List Bool), (markS s a n).length = s.length
  | 0, a, s => rfl
  | n + 1, a, s => by rw [markS, markS_len n, List.length_set]
theorem getD_setB (l : List Bool) (i j : Nat) (x : Bool) : (l.set i x).getD j false = if i = j ∧ i < l.length then x else l.getD j false := by
  simp only [List.getD_eq_getElem?_getD, List.getElem?_set]
  by_cases h : i = j
  · subst h
    by_cases hl : i < l.length
    · simp [hl]
    · simp [hl]
  · simp [h]
theorem markS_get : ∀ (n a : Nat) (s : List Bool) (i : Nat), i < s.length → (markS s a n).getD i false = (s.getD i false || (decide (a ≤ i) && decide (i < a + n)))
  | 0, a, s, i, h => by rw [markS]; cases s.getD i false <;> simp <;> omega
  | n + 1, a, s, i, h => by
    rw [markS, markS_get n (a + 1) _ i (by rw [List.length_set]; exact h), getD_setB]
    by_cases he : a = i
    · subst he
      rw [if_pos ⟨rfl, h⟩]
      simp
    · rw [if_neg (fun h => he h.1)]
      congr 1
      rw [Bool.eq_iff_iff, Bool.and_eq_true, Bool.and_eq_true, decide_eq_true_iff, decide_eq_true_iff, decide_eq_true_iff, decide_eq_true_iff]
      omega
def foldM : List Sp → List Bool → List Bool
  | [], s => s
  | p :: r, s => foldM r (markS s p.1 (p.2 - p.1))
theorem foldM_len : ∀ (r : List Sp) (s : List Bool), (foldM r s).length = s.length
  | [], s => rfl
  | p :: r, s => by rw [foldM, foldM_len r, markS_len]
theorem foldM_get : ∀ (r : List Sp) (s : List Bool) (i : Nat), i < s.length → (foldM r s).getD i false = (s.getD i false || covS r i)
  | [], s, i, h => by simp [foldM, covS]
  | (f, t) :: r, s, i, h => by
    rw [foldM, foldM_get r _ i (by rw [markS_len]; exact h), markS_get _ _ _ _ h, Bool.or_assoc]
    congr 1
    show _ = covS ((f, t) :: r) i
    unfold covS
    rw [List.any_cons]
    congr 1
    show (decide (f ≤ i) && decide (i < f + (t - f))) = (decide (f ≤ i) && decide (i < t))
    by_cases h1 : f ≤ i
    · rw [decide_eq_true h1, Bool.true_and, Bool.true_and]
      by_cases h2 : i < t
      · rw [decide_eq_true h2, decide_eq_true (by omega)]
      · rw [decide_eq_false h2, decide_eq_false (by omega)]
    · rw [decide_eq_false h1, Bool.false_and, Bool.false_and]
theorem spans_in (l : List Gl) (i : Nat) (hi : i < l.length) : (foldM (spansS l) (List.replicate l.length false)).getD i false = decide ((atG l i).2.2 = 2) := by
  rw [foldM_get _ _ _ (by simp; exact hi)]
  have := spans_cov l i hi l.length 0 none (by omega) (fun f hf => by cases hf)
  rw [List.drop_zero] at this
  unfold spansS
  rw [this]
  have hr : (List.replicate l.length false).getD i false = false := by
    rw [List.getD_eq_getElem?_getD, List.getElem?_replicate]; split <;> rfl
  rw [hr]
  simp
end Go.VI

namespace Go.VI
open Go.Proofs
set_option maxRecDepth 100000
set_option linter.unusedSimpArgs false
set_option linter.unusedVariables false
set_option maxHeartbeats 4000000
def rowsT (l : List Bool) : List (List IV) := l.map fun b => [.v (.bool b)]
theorem rowsT_len (l : List Bool) : (rowsT l).length = l.length := by simp [rowsT]
theorem rowsT_at {l : List Bool} {k : Nat} (h : k < l.length) : (rowsT l)[k]? = some [.v (.bool (l.getD k false))] := by
  rw [List.getD_eq_getElem?_getD, List.getElem?_eq_getElem h]; simp [rowsT, h]
theorem rowsT_set (l : List Bool) (k : Nat) (b : Bool) : (rowsT l).set k [.v (.bool b)] = rowsT (l.set k b) := by simp [rowsT, List.map_set]
theorem rowsT_rep (n : Nat) (b : Bool) : List.replicate n [IV.v (.bool b)] = rowsT (List.replicate n b) := by simp [rowsT]
theorem l6_1 (l : List Gl) (s : List Sp) (q : Int) (nn f t : Nat) (ht : t ≤ nn) (hnn : nn ≤ 1000000) : ∀ (m j : Nat) (b : List Bool), j + m = t → b.length = nn →
    rl E 0 6 (loopAt Tryd.f6 1) ([(0, .i (.sl 3 (rowsG l) false)), (3, .ref 0 0 0 nn), (6, .ptr 1 0 0 0), (7, .i (.v (.int .i64 (j)))), (18, .i (.sl 2 (rowsP s) false)), (19, .i (.v (.int .i64 s.length))), (20, .i (.v (.int .i64 q)))]) [.sl 1 0 (rowsT b) false, .box [.i (.v (.int .i64 f)), .i (.v (.int .i64 t))]] =
      some (.exit 2, [(0, .i (.sl 3 (rowsG l) false)), (3, .ref 0 0 0 nn), (6, .ptr 1 0 0 0), (7, .i (.v (.int .i64 (t)))), (18, .i (.sl 2 (rowsP s) false)), (19, .i (.v (.int .i64 s.length))), (20, .i (.v (.int .i64 q))), (52, .i (.v (.bool false)))], [.sl 1 0 (rowsT (markS b j m)) false, .box [.i (.v (.int .i64 f)), .i (.v (.int .i64 t))]]) := by
  intro m
  induction m with
  | zero =>
    intro j b hj hb
    obtain rfl : j = t := by omega
    rw [markS]
    rw [rl_step (fn := Tryd.f6) (k := 1) rfl]
    simp (disch := first | omega | (simp only [List.length_append, List.length_map, List.length_set, List.length_cons, List.length_nil, List.length_take, List.length_drop, rowsT_len, rowsP_len, rowsG_len]; omega)) only [va0, va1, va2, va3, va4, va5, va6, va7, va8, va9, va10, va11, va12, va13, va14, va15, vb0, vb1, vb2, vb3, w_i8, w_u8, w_i16, w_u16, w_i32, w_u32, w_i64, w_u64, lt_T, lt_F, le_T, le_F, nlt_T, nlt_F, nle_T, nle_F, List.take_of_length_le, gB, gcW, gcR, posIn, renA, renL, Chunk.ren, Chunk.refs, evOpD, touchD, stepC, isFresh, nFresh, freshOf, mkR, hole, evL, evH, opd, get, putD, ofVal, cellOf, loadE, behind, lenE, idxAddrE, idxE, lookE, lookM, addPtr, intE, strE, unE, convE, AV.int, AV.bool, AV.str, ivs, take, frameOf, firstRegion, refsA, refsL, one, cellsA, floatOk, apartT, List.map, if_true, if_false, E_P, E_glob, reduceCtorEq, beq_self_eq_true, decide_true, decide_false, ↓reduceIte, Nat.reduceEqDiff, cond_true, cond_false, or_true, true_or, or_false, false_or, and_true, true_and, and_self, false_and, and_false, not_true, not_false_iff, Nat.reduceAdd, Nat.reduceSub, Nat.reduceMul, Nat.reduceLT, Nat.reduceLeDiff, Int.reduceToNat, Int.reduceLT, Int.reduceLE, Option.getD, Int.reduceMul, Int.reduceAdd, List.drop, List.take, Nat.reduceBEq, List.isEmpty, Int.reduceEq, Int.reduceNe, Int.reduceNeg, Int.reduceGT, Int.reduceGE, beq_true, beq_false, UInt8.reduceToNat, eqE, eq_self, foldE, maxE, minE, eq_T, eq_F, ndec, odec, adec, sdec, fillA, over, chop, List.replicate, leavesOk, leafOk, cellsEq, cellEq, E_byref, en6, bs36, bs38, bs41, rowsT_len, rowsP_len, rowsG_len, show ∀ B fr H, execT E B 6 (Code.loop _) fr H = rlG E B 6 (loopAt Tryd.f6 1) (gcn B (norm [0, 3, 6, 7, 18, 19, 20] fr) H) from fun B fr H => rl_intro rfl mt6_11 mb6_11 zf6_11 hd6_11 fr H]
  | succ m ih =>
    intro j b hj hb
    have hlt : j < b.length := by omega
    have hrow := rowsT_at hlt
    have hst := rowsT_set b j true
    have hl2 : (rowsT (b.set j true)).length = nn := by rw [rowsT_len, List.length_set, hb]
    have e := ih (j + 1) (b.set j true) (by omega) (by rw [List.length_set]; exact hb)
    rw [markS]
    refine Eq.trans ?_ e
    clear e ih
    rw [rl_step (fn := Tryd.f6) (k := 1) rfl]
    simp (disch := first | omega | (simp only [List.length_append, List.length_map, List.length_set, List.length_cons, List.length_nil, List.length_take, List.length_drop, rowsT_len, rowsP_len, rowsG_len]; omega)) only [va0, va1, va2, va3, va4, va5, va6, va7, va8, va9, va10, va11, va12, va13, va14, va15, vb0, vb1, vb2, vb3, w_i8, w_u8, w_i16, w_u16, w_i32, w_u32, w_i64, w_u64, lt_T, lt_F, le_T, le_F, nlt_T, nlt_F, nle_T, nle_F, List.take_of_length_le, gB, gcW, gcR, posIn, renA, renL, Chunk.ren, Chunk.refs, evOpD, touchD, stepC, isFresh, nFresh, freshOf, mkR, hole, evL, evH, opd, get, putD, ofVal, cellOf, loadE, behind, lenE, idxAddrE, idxE, lookE, lookM, addPtr, intE, strE, unE, convE, AV.int, AV.bool, AV.str, ivs, take, frameOf, firstRegion, refsA, refsL, one, cellsA, floatOk, apartT, List.map, if_true, if_false, E_P, E_glob, reduceCtorEq, beq_self_eq_true, decide_true, decide_false, ↓reduceIte, Nat.reduceEqDiff, cond_true, cond_false, or_true, true_or, or_false, false_or, and_true, true_and, and_self, false_and, and_false, not_true, not_false_iff, Nat.reduceAdd, Nat.reduceSub, Nat.reduceMul, Nat.reduceLT, Nat.reduceLeDiff, Int.reduceToNat, Int.reduceLT, Int.reduceLE, Option.getD, Int.reduceMul, Int.reduceAdd, List.drop, List.take, Nat.reduceBEq, List.isEmpty, Int.reduceEq, Int.reduceNe, Int.reduceNeg, Int.reduceGT, Int.reduceGE, beq_true, beq_false, UInt8.reduceToNat, eqE, eq_self, foldE, maxE, minE, eq_T, eq_F, ndec, odec, adec, sdec, fillA, over, chop, List.replicate, leavesOk, leafOk, cellsEq, cellEq, E_byref, en6, bs36, bs38, bs41, hrow, hst, hl2, rowsT_len, rowsP_len, rowsG_len, show ∀ B fr H, execT E B 6 (Code.loop _) fr H = rlG E B 6 (loopAt Tryd.f6 1) (gcn B (norm [0, 3, 6, 7, 18, 19, 20] fr) H) from fun B fr H => rl_intro rfl mt6_11 mb6_11 zf6_11 hd6_11 fr H]
theorem l6_0 (l : List Gl) (hl : l.length ≤ 1000000) (s : List Sp) (hsl : s.length ≤ 1000001) : ∀ (m q : Nat) (la : Int) (b : List Bool), q + m = s.length → b.length = l.length → -1 ≤ la → la ≤ 1000000 → goodS l.length la (s.drop q) →
    ∃ la2, rl E 0 6 (loopAt Tryd.f6 0) ([(0, .i (.sl 3 (rowsG l) false)), (3, .ref 0 0 0 l.length), (4, .i (.v (.int .i64 (la)))), (18, .i (.sl 2 (rowsP s) false)), (19, .i (.v (.int .i64 s.length))), (20, .i (.v (.int .i64 (q))))]) [.sl 1 0 (rowsT b) false] = some (.exit 0, [(0, .i (.sl 3 (rowsG l) false)), (3, .ref 0 0 0 l.length), (4, .i (.v (.int .i64 (la2)))), (18, .i (.sl 2 (rowsP s) false)), (19, .i (.v (.int .i64 s.length))), (20, .i (.v (.int .i64 (s.length)))), (21, .i (.v (.bool false)))], [.sl 1 0 (rowsT (foldM (s.drop q) b)) false]) := by
  intro m
  induction m with
  | zero =>
    intro q la b hq hb h1 h2 hg
    obtain rfl : q = s.length := by omega
    rw [List.drop_length, foldM]
    rw [rl_step (fn := Tryd.f6) (k := 0) rfl]
    simp (disch := first | omega | (simp only [List.length_append, List.length_map, List.length_set, List.length_cons, List.length_nil, List.length_take, List.length_drop, rowsT_len, rowsP_len, rowsG_len]; omega)) only [va0, va1, va2, va3, va4, va5, va6, va7, va8, va9, va10, va11, va12, va13, va14, va15, vb0, vb1, vb2, vb3, w_i8, w_u8, w_i16, w_u16, w_i32, w_u32, w_i64, w_u64, lt_T, lt_F, le_T, le_F, nlt_T, nlt_F, nle_T, nle_F, List.take_of_length_le, gB, gcW, gcR, posIn, renA, renL, Chunk.ren, Chunk.refs, evOpD, touchD, stepC, isFresh, nFresh, freshOf, mkR, hole, evL, evH, opd, get, putD, ofVal, cellOf, loadE, behind, lenE, idxAddrE, idxE, lookE, lookM, addPtr, intE, strE, unE, convE, AV.int, AV.bool, AV.str, ivs, take, frameOf, firstRegion, refsA, refsL, one, cellsA, floatOk, apartT, List.map, if_true, if_false, E_P, E_glob, reduceCtorEq, beq_self_eq_true, decide_true, decide_false, ↓reduceIte, Nat.reduceEqDiff, cond_true, cond_false, or_true, true_or, or_false, false_or, and_true, true_and, and_self, false_and, and_false, not_true, not_false_iff, Nat.reduceAdd, Nat.reduceSub, Nat.reduceMul, Nat.reduceLT, Nat.reduceLeDiff, Int.reduceToNat, Int.reduceLT, Int.reduceLE, Option.getD, Int.reduceMul, Int.reduceAdd, List.drop, List.take, Nat.reduceBEq, List.isEmpty, Int.reduceEq, Int.reduceNe, Int.reduceNeg, Int.reduceGT, Int.reduceGE, beq_true, beq_false, UInt8.reduceToNat, eqE, eq_self, foldE, maxE, minE, eq_T, eq_F, ndec, odec, adec, sdec, fillA, over, chop, List.replicate, leavesOk, leafOk, cellsEq, cellEq, E_byref, en6, bs36, bs38, bs41, rowsT_len, rowsP_len, rowsG_len, show ∀ B fr H, execT E B 6 (Code.loop _) fr H = rlG E B 6 (loopAt Tryd.f6 0) (gcn B (norm [0, 3, 4, 18, 19, 20] fr) H) from fun B fr H => rl_intro rfl mt6_6 mb6_6 zf6_6 hd6_6 fr H]
    exact ⟨_, rfl⟩
  | succ m ih =>
    intro q la b hq hb h1 h2 hg
    have hlt : q < s.length := by omega
    have hrow := rowsP_at hlt
    rw [List.drop_eq_getElem_cons hlt] at hg ⊢
    rw [foldM]
    obtain ⟨g1, g2, g3, g4⟩ := hg
    generalize s[q] = p at *
    obtain ⟨f, t⟩ := p
    simp only at g1 g2 g3 g4 hrow ⊢
    obtain ⟨la2, e⟩ := ih (q + 1) t (markS b f (t - f)) (by omega) (by rw [markS_len]; exact hb) (by omega) (by omega) g4
    refine ⟨la2, Eq.trans ?_ e⟩
    clear e ih
    have e1 := l6_1 l s q l.length f t g3 hl (t - f) f b (by omega) hb
    have hml : (rowsT (markS b f (t - f))).length = l.length := by rw [rowsT_len, markS_len, hb]
    generalize markS b f (t - f) = b2 at *
    rw [rl_step (fn := Tryd.f6) (k := 0) rfl]
    simp (disch := first | omega | (simp only [List.length_append, List.length_map, List.length_set, List.length_cons, List.length_nil, List.length_take, List.length_drop, rowsT_len, rowsP_len, rowsG_len]; omega)) only [va0, va1, va2, va3, va4, va5, va6, va7, va8, va9, va10, va11, va12, va13, va14, va15, vb0, vb1, vb2, vb3, w_i8, w_u8, w_i16, w_u16, w_i32, w_u32, w_i64, w_u64, lt_T, lt_F, le_T, le_F, nlt_T, nlt_F, nle_T, nle_F, List.take_of_length_le, gB, gcW, gcR, posIn, renA, renL, Chunk.ren, Chunk.refs, evOpD, touchD, stepC, isFresh, nFresh, freshOf, mkR, hole, evL, evH, opd, get, putD, ofVal, cellOf, loadE, behind, lenE, idxAddrE, idxE, lookE, lookM, addPtr, intE, strE, unE, convE, AV.int, AV.bool, AV.str, ivs, take, frameOf, firstRegion, refsA, refsL, one, cellsA, floatOk, apartT, List.map, if_true, if_false, E_P, E_glob, reduceCtorEq, beq_self_eq_true, decide_true, decide_false, ↓reduceIte, Nat.reduceEqDiff, cond_true, cond_false, or_true, true_or, or_false, false_or, and_true, true_and, and_self, false_and, and_false, not_true, not_false_iff, Nat.reduceAdd, Nat.reduceSub, Nat.reduceMul, Nat.reduceLT, Nat.reduceLeDiff, Int.reduceToNat, Int.reduceLT, Int.reduceLE, Option.getD, Int.reduceMul, Int.reduceAdd, List.drop, List.take, Nat.reduceBEq, List.isEmpty, Int.reduceEq, Int.reduceNe, Int.reduceNeg, Int.reduceGT, Int.reduceGE, beq_true, beq_false, UInt8.reduceToNat, eqE, eq_self, foldE, maxE, minE, eq_T, eq_F, ndec, odec, adec, sdec, fillA, over, chop, List.replicate, leavesOk, leafOk, cellsEq, cellEq, E_byref, en6, bs36, bs38, bs41, hrow, e1, hml, hb, rowsT_len, rowsP_len, rowsG_len, show ∀ B fr H, execT E B 6 (Code.loop _) fr H = rlG E B 6 (loopAt Tryd.f6 0) (gcn B (norm [0, 3, 4, 18, 19, 20] fr) H) from fun B fr H => rl_intro rfl mt6_6 mb6_6 zf6_6 hd6_6 fr H, show ∀ B fr H, execT E B 6 (Code.loop _) fr H = rlG E B 6 (loopAt Tryd.f6 1) (gcn B (norm [0, 3, 6, 7, 18, 19, 20] fr) H) from fun B fr H => rl_intro rfl mt6_11 mb6_11 zf6_11 hd6_11 fr H]
theorem l6_2 (l : List Gl) (hl : l.length ≤ 1000000) (b : List Bool) (hb : b.length = l.length) (hin : ∀ i, i < l.length → b.getD i false = decide ((atG l i).2.2 = 2)) : ∀ (m k : Nat), k + m = l.length →
    ∃ fr H, rl E 0 6 (loopAt Tryd.f6 2) ([(3, .ref 0 0 0 l.length), (61, .i (.sl 3 (rowsG l) false)), (62, .i (.v (.int .i64 l.length))), (63, .i (.v (.int .i64 (k))))]) [.sl 1 0 (rowsT b) false] = some (.exit 4, fr, H) := by
  intro m
  induction m with
  | zero =>
    intro k hk
    obtain rfl : k = l.length := by omega
    rw [rl_step (fn := Tryd.f6) (k := 2) rfl]
    simp (disch := first | omega | (simp only [List.length_append, List.length_map, List.length_set, List.length_cons, List.length_nil, List.length_take, List.length_drop, rowsT_len, rowsG_len]; omega)) only [va0, va1, va2, va3, va4, va5, va6, va7, va8, va9, va10, va11, va12, va13, va14, va15, vb0, vb1, vb2, vb3, w_i8, w_u8, w_i16, w_u16, w_i32, w_u32, w_i64, w_u64, lt_T, lt_F, le_T, le_F, nlt_T, nlt_F, nle_T, nle_F, List.take_of_length_le, gB, gcW, gcR, posIn, renA, renL, Chunk.ren, Chunk.refs, evOpD, touchD, stepC, isFresh, nFresh, freshOf, mkR, hole, evL, evH, opd, get, putD, ofVal, cellOf, loadE, behind, lenE, idxAddrE, idxE, lookE, lookM, addPtr, intE, strE, unE, convE, AV.int, AV.bool, AV.str, ivs, take, frameOf, firstRegion, refsA, refsL, one, cellsA, floatOk, apartT, List.map, if_true, if_false, E_P, E_glob, reduceCtorEq, beq_self_eq_true, decide_true, decide_false, ↓reduceIte, Nat.reduceEqDiff, cond_true, cond_false, or_true, true_or, or_false, false_or, and_true, true_and, and_self, false_and, and_false, not_true, not_false_iff, Nat.reduceAdd, Nat.reduceSub, Nat.reduceMul, Nat.reduceLT, Nat.reduceLeDiff, Int.reduceToNat, Int.reduceLT, Int.reduceLE, Option.getD, Int.reduceMul, Int.reduceAdd, List.drop, List.take, Nat.reduceBEq, List.isEmpty, Int.reduceEq, Int.reduceNe, Int.reduceNeg, Int.reduceGT, Int.reduceGE, beq_true, beq_false, UInt8.reduceToNat, eqE, eq_self, foldE, maxE, minE, eq_T, eq_F, ndec, odec, adec, sdec, fillA, over, chop, List.replicate, leavesOk, leafOk, cellsEq, cellEq, E_byref, en6, bs36, bs38, bs41, rowsT_len, rowsG_len, show ∀ B fr H, execT E B 6 (Code.loop _) fr H = rlG E B 6 (loopAt Tryd.f6 2) (gcn B (norm [3, 61, 62, 63] fr) H) from fun B fr H => rl_intro rfl mt6_17 mb6_17 zf6_17 hd6_17 fr H]
    exact ⟨_, _, rfl⟩
  | succ m ih =>
    intro k hk
    have hlt : k < l.length := by omega
    have hrow := rowsG_D hlt
    have hrb := rowsT_at (show k < b.length by omega)
    rw [hin k hlt] at hrb
    obtain ⟨fr, H, e⟩ := ih (k + 1) (by omega)
    refine ⟨fr, H, Eq.trans ?_ e⟩
    clear e ih hin
    generalize atG l k = g at *
    by_cases h2 : g.2.2 = 2
    · rw [decide_eq_true h2] at hrb
      rw [rl_step (fn := Tryd.f6) (k := 2) rfl]
      simp (disch := first | omega | (simp only [List.length_append, List.length_map, List.length_set, List.length_cons, List.length_nil, List.length_take, List.length_drop, rowsT_len, rowsG_len]; omega)) only [va0, va1, va2, va3, va4, va5, va6, va7, va8, va9, va10, va11, va12, va13, va14, va15, vb0, vb1, vb2, vb3, w_i8, w_u8, w_i16, w_u16, w_i32, w_u32, w_i64, w_u64, lt_T, lt_F, le_T, le_F, nlt_T, nlt_F, nle_T, nle_F, List.take_of_length_le, gB, gcW, gcR, posIn, renA, renL, Chunk.ren, Chunk.refs, evOpD, touchD, stepC, isFresh, nFresh, freshOf, mkR, hole, evL, evH, opd, get, putD, ofVal, cellOf, loadE, behind, lenE, idxAddrE, idxE, lookE, lookM, addPtr, intE, strE, unE, convE, AV.int, AV.bool, AV.str, ivs, take, frameOf, firstRegion, refsA, refsL, one, cellsA, floatOk, apartT, List.map, if_true, if_false, E_P, E_glob, reduceCtorEq, beq_self_eq_true, decide_true, decide_false, ↓reduceIte, Nat.reduceEqDiff, cond_true, cond_false, or_true, true_or, or_false, false_or, and_true, true_and, and_self, false_and, and_false, not_true, not_false_iff, Nat.reduceAdd, Nat.reduceSub, Nat.reduceMul, Nat.reduceLT, Nat.reduceLeDiff, Int.reduceToNat, Int.reduceLT, Int.reduceLE, Option.getD, Int.reduceMul, Int.reduceAdd, List.drop, List.take, Nat.reduceBEq, List.isEmpty, Int.reduceEq, Int.reduceNe, Int.reduceNeg, Int.reduceGT, Int.reduceGE, beq_true, beq_false, UInt8.reduceToNat, eqE, eq_self, foldE, maxE, minE, eq_T, eq_F, ndec, odec, adec, sdec, fillA, over, chop, List.replicate, leavesOk, leafOk, cellsEq, cellEq, E_byref, en6, bs36, bs38, bs41, hrow, hrb, hb, rowsT_len, rowsG_len, show ∀ B fr H, execT E B 6 (Code.loop _) fr H = rlG E B 6 (loopAt Tryd.f6 2) (gcn B (norm [3, 61, 62, 63] fr) H) from fun B fr H => rl_intro rfl mt6_17 mb6_17 zf6_17 hd6_17 fr H]
    · rw [decide_eq_false h2] at hrb
      rw [rl_step (fn := Tryd.f6) (k := 2) rfl]
      simp (disch := first | omega | (simp only [List.length_append, List.length_map, List.length_set, List.length_cons, List.length_nil, List.length_take, List.length_drop, rowsT_len, rowsG_len]; omega)) only [va0, va1, va2, va3, va4, va5, va6, va7, va8, va9, va10, va11, va12, va13, va14, va15, vb0, vb1, vb2, vb3, w_i8, w_u8, w_i16, w_u16, w_i32, w_u32, w_i64, w_u64, lt_T, lt_F, le_T, le_F, nlt_T, nlt_F, nle_T, nle_F, List.take_of_length_le, gB, gcW, gcR, posIn, renA, renL, Chunk.ren, Chunk.refs, evOpD, touchD, stepC, isFresh, nFresh, freshOf, mkR, hole, evL, evH, opd, get, putD, ofVal, cellOf, loadE, behind, lenE, idxAddrE, idxE, lookE, lookM, addPtr, intE, strE, unE, convE, AV.int, AV.bool, AV.str, ivs, take, frameOf, firstRegion, refsA, refsL, one, cellsA, floatOk, apartT, List.map, if_true, if_false, E_P, E_glob, reduceCtorEq, beq_self_eq_true, decide_true, decide_false, ↓reduceIte, Nat.reduceEqDiff, cond_true, cond_false, or_true, true_or, or_false, false_or, and_true, true_and, and_self, false_and, and_false, not_true, not_false_iff, Nat.reduceAdd, Nat.reduceSub, Nat.reduceMul, Nat.reduceLT, Nat.reduceLeDiff, Int.reduceToNat, Int.reduceLT, Int.reduceLE, Option.getD, Int.reduceMul, Int.reduceAdd, List.drop, List.take, Nat.reduceBEq, List.isEmpty, Int.reduceEq, Int.reduceNe, Int.reduceNeg, Int.reduceGT, Int.reduceGE, beq_true, beq_false, UInt8.reduceToNat, eqE, eq_self, foldE, maxE, minE, eq_T, eq_F, ndec, odec, adec, sdec, fillA, over, chop, List.replicate, leavesOk, leafOk, cellsEq, cellEq, E_byref, en6, bs36, bs38, bs41, hrow, hrb, hb, h2, rowsT_len, rowsG_len, show ∀ B fr H, execT E B 6 (Code.loop _) fr H = rlG E B 6 (loopAt Tryd.f6 2) (gcn B (norm [3, 61, 62, 63] fr) H) from fun B fr H => rl_intro rfl mt6_17 mb6_17 zf6_17 hd6_17 fr H]
theorem law6 (l : List Gl) (hl : l.length ≤ 9223372036854775807) : ∃ L, callT E 6 [.i (.sl 3 (rowsG l) false)] [] = some (.i (.v (.bool true)), L) := by
  by_cases h20 : 20 < (l.length : Int)
  · rw [callT_eq Tryd.func6 rfl fok6 (by simp [Tryd.ntmps6])]
    simp (disch := first | omega | (simp only [List.length_append, List.length_map, List.length_set, List.length_cons, List.length_nil, List.length_take, List.length_drop, rowsG_len]; omega)) only [va0, va1, va2, va3, va4, va5, va6, va7, va8, va9, va10, va11, va12, va13, va14, va15, vb0, vb1, vb2, vb3, w_i8, w_u8, w_i16, w_u16, w_i32, w_u32, w_i64, w_u64, lt_T, lt_F, le_T, le_F, nlt_T, nlt_F, nle_T, nle_F, List.take_of_length_le, gB, gcW, gcR, posIn, renA, renL, Chunk.ren, Chunk.refs, evOpD, touchD, stepC, isFresh, nFresh, freshOf, mkR, hole, evL, evH, opd, get, putD, ofVal, cellOf, loadE, behind, lenE, idxAddrE, idxE, lookE, lookM, addPtr, intE, strE, unE, convE, AV.int, AV.bool, AV.str, ivs, take, frameOf, firstRegion, refsA, refsL, one, cellsA, floatOk, apartT, List.map, if_true, if_false, E_P, E_glob, reduceCtorEq, beq_self_eq_true, decide_true, decide_false, ↓reduceIte, Nat.reduceEqDiff, cond_true, cond_false, or_true, true_or, or_false, false_or, and_true, true_and, and_self, false_and, and_false, not_true, not_false_iff, Nat.reduceAdd, Nat.reduceSub, Nat.reduceMul, Nat.reduceLT, Nat.reduceLeDiff, Int.reduceToNat, Int.reduceLT, Int.reduceLE, Option.getD, Int.reduceMul, Int.reduceAdd, List.drop, List.take, Nat.reduceBEq, List.isEmpty, Int.reduceEq, Int.reduceNe, Int.reduceNeg, Int.reduceGT, Int.reduceGE, beq_true, beq_false, UInt8.reduceToNat, eqE, eq_self, foldE, maxE, minE, eq_T, eq_F, ndec, odec, adec, sdec, fillA, over, chop, List.replicate, leavesOk, leafOk, cellsEq, cellEq, E_byref, en6, bs36, bs38, bs41, h20, rowsG_len, ik9]
    exact ⟨_, rfl⟩
  · have h1 := fun H => ik14 l (by omega) H
    have hs := spansS_len l
    have hg : goodS l.length (-1) (spansS l) := by
      have := spans_good l l.length 0 (-1) none (by omega) (by simp only; omega)
      rw [List.drop_zero] at this
      exact this
    have hrep := rowsT_rep l.length false
    have hfl := foldM_len (spansS l) (List.replicate l.length false)
    rw [List.length_replicate] at hfl
    obtain ⟨la2, e0⟩ := l6_0 l (by omega) (spansS l) (by omega) (spansS l).length 0 (-1) (List.replicate l.length false) (by omega) (by simp) (by omega) (by omega) (by rw [List.drop_zero]; exact hg)
    rw [List.drop_zero] at e0
    obtain ⟨fr2, H2, e2⟩ := l6_2 l (by omega) (foldM (spansS l) (List.replicate l.length false)) hfl (fun i hi => spans_in l i hi) l.length 0 (by omega)
    generalize foldM (spansS l) (List.replicate l.length false) = b at *
    generalize hs0 : spansS l = s at *
    have e0' : rl E 0 6 (loopAt Tryd.f6 0) [(0, .i (.sl 3 (rowsG l) false)), (3, .ref 0 0 0 l.length), (4, .i (.v (.int .i64 (-1)))), (18, .i (.sl 2 (rowsP s) false)), (19, .i (.v (.int .i64 s.length))), (20, .i (.v (.int .i64 0)))] [.sl 1 0 (rowsT (List.replicate l.length false)) false] = _ := e0
    have e2' : rl E 0 6 (loopAt Tryd.f6 2) [(3, .ref 0 0 0 l.length), (61, .i (.sl 3 (rowsG l) false)), (62, .i (.v (.int .i64 l.length))), (63, .i (.v (.int .i64 0)))] _ = _ := e2
    clear e0 e2
    have hnn : ((l.length : Nat) : Int).toNat = l.length := rfl
    rw [callT_eq Tryd.func6 rfl fok6 (by simp [Tryd.ntmps6])]
    simp (disch := first | omega | (simp only [List.length_append, List.length_map, List.length_set, List.length_cons, List.length_nil, List.length_take, List.length_drop, rowsT_len, rowsP_len, rowsG_len]; omega)) only [va0, va1, va2, va3, va4, va5, va6, va7, va8, va9, va10, va11, va12, va13, va14, va15, vb0, vb1, vb2, vb3, w_i8, w_u8, w_i16, w_u16, w_i32, w_u32, w_i64, w_u64, lt_T, lt_F, le_T, le_F, nlt_T, nlt_F, nle_T, nle_F, List.take_of_length_le, gB, gcW, gcR, posIn, renA, renL, Chunk.ren, Chunk.refs, evOpD, touchD, stepC, isFresh, nFresh, freshOf, mkR, hole, evL, evH, opd, get, putD, ofVal, cellOf, loadE, behind, lenE, idxAddrE, idxE, lookE, lookM, addPtr, intE, strE, unE, convE, AV.int, AV.bool, AV.str, ivs, take, frameOf, firstRegion, refsA, refsL, one, cellsA, floatOk, apartT, List.map, if_true, if_false, E_P, E_glob, reduceCtorEq, beq_self_eq_true, decide_true, decide_false, ↓reduceIte, Nat.reduceEqDiff, cond_true, cond_false, or_true, true_or, or_false, false_or, and_true, true_and, and_self, false_and, and_false, not_true, not_false_iff, Nat.reduceAdd, Nat.reduceSub, Nat.reduceMul, Nat.reduceLT, Nat.reduceLeDiff, Int.reduceToNat, Int.reduceLT, Int.reduceLE, Option.getD, Int.reduceMul, Int.reduceAdd, List.drop, List.take, Nat.reduceBEq, List.isEmpty, Int.reduceEq, Int.reduceNe, Int.reduceNeg, Int.reduceGT, Int.reduceGE, beq_true, beq_false, UInt8.reduceToNat, eqE, eq_self, foldE, maxE, minE, eq_T, eq_F, ndec, odec, adec, sdec, fillA, over, chop, List.replicate, leavesOk, leafOk, cellsEq, cellEq, E_byref, en6, bs36, bs38, bs41, h20, h1, e0', e2', hrep, hnn, hfl, rowsT_len, rowsP_len, rowsG_len, ik9, show ∀ B fr H, execT E B 6 (Code.loop _) fr H = rlG E B 6 (loopAt Tryd.f6 0) (gcn B (norm [0, 3, 4, 18, 19, 20] fr) H) from fun B fr H => rl_intro rfl mt6_6 mb6_6 zf6_6 hd6_6 fr H, show ∀ B fr H, execT E B 6 (Code.loop _) fr H = rlG E B 6 (loopAt Tryd.f6 2) (gcn B (norm [3, 61, 62, 63] fr) H) from fun B fr H => rl_intro rfl mt6_17 mb6_17 zf6_17 hd6_17 fr H]
    exact ⟨_, rfl⟩
theorem c6 (l : List Gl) (hl : l.length ≤ 9223372036854775807) : ∃ L, callT E 6 [.i (.sl 3 (l.map fun a => [.str a.1, .v (.bool a.2.1), .v (.int .i64 a.2.2)]) false)] [] = some (.i (.v (.bool true)), L) := law6 l hl
end Go.VI

