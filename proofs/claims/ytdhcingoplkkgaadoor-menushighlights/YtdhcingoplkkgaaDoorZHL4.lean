import Derived.Deep.LoopGhost
import Derived.Lib.Walk
import Derived.Lib.SliceRun
import Derived.MakeChecks
import Derived.Test.YtdhcingoplkkgaaDoorZHL3
set_option linter.unusedSimpArgs false
set_option linter.unusedVariables false
namespace Go.VI
open Go.Proofs Go.Shelf Go.RowKit Go.Lib
set_option maxHeartbeats 2000000 in
set_option maxRecDepth 100000 in
theorem clone_walk (ad : Addr) (n c : Nat) (zs : List Value) (w : World) (hz : zs.length = n * 3) (hbig : n ≤ 1000000000) (hc : ∀ j u, zs[j]? = some u → w.cell? (ad.add j) = some u) (h1 : ∀ u ∈ zs, u.oneCell' = true) :
    Calls Tryd.prog 25 #[.slice (some ad) n c] w fun e w' => ∃ v', e = .returned v' ∧ w'.ownsRow w.heap.size 45 3 v' n zs ∧ Below w.heap.size w w' := by
  obtain ⟨i0, hi, hz0, hz1, hz2⟩ := info_parts (show (Tryd.prog.info? 45).map (fun i => (i.zero, i.size, i.bytes)) = some (some (.agg #[.string ⟨#[]⟩, .bool false, .int .i64 0]), 3, 32) from by kernel_rfl)
  have q36 : ∀ (w : World) (a : Option Addr) (n c n' c' : Nat), (binOp .eql 36 (.slice a n c) (.slice none n' c')).run Tryd.prog w = .ok (.bool a.isNone) w := fun w a n c n' c' => Lib.run_eql_slice_nil w _ _ a n c n' c' Tryd.underlying36
  have u36 : ∀ w, Sem.run Tryd.prog (underlying 36) w = .ok (TypeDesc.slice 45) w := run_underlying Tryd.underlying36
  have A : Aside (∀ j u, zs[j]? = some u → w.cell? (ad.add j) = some u) := hc
  clear hc
  go_enter Tryd.func25, Tryd.ntmps25
  go_wp2_with (at_builtin; refine wpList_append_own _ rfl _ _ 36 rfl w.heap.size 45 i0 _ 3 32 Tryd.underlying36 hi hz0 hz1 hz2 rfl (by decide) _ _ _ rfl (World.ownsRow_made w #[] 0 (Nat.le_refl _) (Nat.zero_le _) rfl) ad n c zs rfl hz ?qc2 ?qc3 ?qc4 ?qc5 ?qc6 ?_)
  case qc2 =>
    intro j u hj
    exact Lib.cell?_alloc_some _ (A.out j u hj)
  case qc3 => exact h1
  case qc4 => unfold maxLen; omega
  case qc5 => omega
  case qc6 => simp
  intro v' w1 hown hgrow hnil
  go_wp2
  go_ret
  exact ⟨v', rfl, by simpa using hown, ((Below.refl _ w).alloc (Nat.le_refl _) _).grown hgrow (by simp) (by intro k hk; simp [Value.ownBlock] at hk; omega)⟩
set_option maxHeartbeats 1000000 in
theorem clone_nil (n c : Nat) (w : World) : Calls Tryd.prog 25 #[.slice none n c] w fun e w' => e = .returned (.slice none 0 0) ∧ w' = w := by
  have q36 : ∀ (w : World) (a : Option Addr) (n c n' c' : Nat), (binOp .eql 36 (.slice a n c) (.slice none n' c')).run Tryd.prog w = .ok (.bool a.isNone) w := fun w a n c n' c' => Lib.run_eql_slice_nil w _ _ a n c n' c' Tryd.underlying36
  go_enter Tryd.func25, Tryd.ntmps25
  go_wp2
  go_ret
  exact ⟨rfl, rfl⟩
end Go.VI

set_option linter.unusedSimpArgs false
set_option linter.unusedVariables false
namespace Go.VI
open Go.Proofs Go.Shelf Go.RowKit Go.Lib
section
variable {E : Env} {I : Imm} {η : Eta} {H : Hp} {w : World}
theorem conc_new (hC : Conc E I η H w) {w2 : World} (hb : Below w.heap.size w w2) {g : Nat} (hg : w.heap.size ≤ g) {o : Obj} (hgo : w2.heap[g]? = some o) : After E I η H w H w2 fun I' η' => (∀ b, I' b = if b = g then some o else I b) ∧ I.le I' := by
  have ho := hb.block
  let I' : Imm := fun b => if b = g then some o else I b
  have hlt : ∀ b o, I b = some o → b < w.heap.size := fun b o hb => (Array.getElem?_eq_some_iff.1 (hC.imm b o hb)).1
  have hle : I.le I' := fun b o hb => by
    have := hlt b o hb
    show (if _ then _ else _) = _
    rw [if_neg (by omega)]; exact hb
  have hm : Mono I η H I' η H := mono_of hle (Nat.le_refl _) fun c hc => CStep.same rfl rfl
  refine ⟨I', η, ⟨fun b o' hb' => ?_, fun c x hx => (hC.ch c x hx).mono rfl hle hm fun b n h => ho b (hC.sep _ _ _ h).2.1, hC.inj, fun c b n hh => ?_, fun g cells hg => (hC.glob g cells hg).mono hle⟩,
    ⟨hb.os, hb.tape, hb.output, hb.size, fun b hb _ => ho b hb, hle, fun b hb' => ?_, fun c b n hh => .inr ⟨_, _, hh⟩⟩, hm, fun b => rfl, hle⟩
  · have hb'' : (if b = g then some o else I b) = some o' := hb'
    by_cases he : b = g
    · rw [if_pos he] at hb''
      rw [he, hgo]; exact hb''
    · rw [if_neg he] at hb''
      rw [ho b (hlt b o' hb'')]; exact hC.imm b o' hb''
  · obtain ⟨h1, h2, h3⟩ := hC.sep _ _ _ hh
    refine ⟨?_, Nat.lt_of_lt_of_le h2 hb.size, h3⟩
    show (if _ then _ else _) = _
    rw [if_neg (by omega)]; exact h1
  · by_cases he : b = g
    · exact .inr (.inl (by omega))
    · have hb'' : (if b = g then some o else I b) ≠ none := hb'
      rw [if_neg he] at hb''
      exact .inl hb''
theorem rel_one {a : IV} {v : Value} (h : RelI I a v) : v.oneCell' = true := by
  cases h
  · assumption
  all_goals rfl
end
theorem ext_clone : Ext1 E 25 (extClone 3) := by
  intro args H r H' hr I η w vs hC hA
  unfold extClone at hr
  split at hr
  · rename_i z rows ex
    split at hr
    · rename_i hc
      obtain ⟨rfl, hc2⟩ := hc
      cases hr
      obtain ⟨y, rfl, r1⟩ := args_one hA
      cases relA_i r1 with
      | nil _ _ a cap hx =>
        cases a with
        | none =>
          refine (clone_nil 0 cap w).mono fun e w' ⟨h1, h2⟩ => ?_
          subst h1 h2
          exact ⟨_, rfl, After.refl hC (.i _ _ (.nil _ _ _ _ (fun h => by cases h)))⟩
        | some ad =>
          refine (clone_walk ad 0 cap [] w rfl (by decide) (fun j u hj => by cases hj) (fun u hu => by cases hu)).mono fun e w' ⟨v', he, hown, hbel⟩ => ?_
          subst he
          obtain ⟨_, hv⟩ := hown
          obtain ⟨I', η', k1, k2, k3, rfl, rfl⟩ := conc_below hC hbel
          rcases hv with ⟨rfl, _⟩ | ⟨g, cap', cur, rfl, _⟩
          · exact ⟨_, rfl, _, _, k1, k2, k3, .i _ _ (.nil _ _ _ _ (fun h => by cases h))⟩
          · exact ⟨_, rfl, _, _, k1, k2, k3, .i _ _ (.nil _ _ _ _ (fun h => by cases h))⟩
      | sl _ _ _ b off cap cs elem fz cv hI hcap hx hrr h1 h2 =>
        have hblk := hC.imm b _ hI
        have hz3 : ∀ i k, i < rows.length → k < 3 → cs[off + i * 3 + k]? = some (cv i k) ∧ (cv i k).oneCell' = true := by
          intro i k hi hk
          have hget : rows[i]? = some rows[i] := List.getElem?_eq_getElem hi
          have hlen := hrr i _ hget
          have hgk : rows[i][k]? = some rows[i][k] := List.getElem?_eq_getElem (by omega)
          exact ⟨h1 i _ k _ hget hgk, rel_one (h2 i _ k _ hget hgk)⟩
        have hzs : ∀ j, j < rows.length * 3 → cs[off + j]? = some (cv (j / 3) (j % 3)) ∧ (cv (j / 3) (j % 3)).oneCell' = true := by
          intro j hj
          have := hz3 (j / 3) (j % 3) (by omega) (Nat.mod_lt _ (by decide))
          rw [show off + j / 3 * 3 + j % 3 = off + j from by omega] at this
          exact this
        have hgetz : ∀ j u, ((List.range (rows.length * 3)).map fun j => cv (j / 3) (j % 3))[j]? = some u → j < rows.length * 3 ∧ u = cv (j / 3) (j % 3) := by
          intro j u hj
          rw [List.getElem?_map] at hj
          by_cases hlt : j < rows.length * 3
          · rw [List.getElem?_range hlt] at hj
            simp only [Option.map_some, Option.some.injEq] at hj
            exact ⟨hlt, hj.symm⟩
          · rw [List.getElem?_eq_none (by simp; omega)] at hj; cases hj
        refine (clone_walk ⟨b, off, none⟩ rows.length cap ((List.range (rows.length * 3)).map fun j => cv (j / 3) (j % 3)) w (by simp) hc2 (fun j u hj => ?_) (fun u hu => ?_)).mono fun e w' ⟨v', he, hown, hbel⟩ => ?_
        · obtain ⟨hlt, rfl⟩ := hgetz j u hj
          rw [Addr.add_lit]
          simp [World.cell?, hblk, (hzs j hlt).1]
        · obtain ⟨j, hj⟩ := List.getElem?_of_mem hu
          obtain ⟨hlt, rfl⟩ := hgetz j u hj
          exact (hzs j hlt).2
        · subst he
          obtain ⟨_, hv⟩ := hown
          rcases hv with ⟨rfl, hn0⟩ | ⟨g, cap', cur, rfl, hge, hcur, hcap', _, hsz, htk⟩
          · obtain rfl : rows = [] := List.length_eq_zero_iff.1 hn0
            obtain ⟨I', η', k1, k2, k3, rfl, rfl⟩ := conc_below hC hbel
            exact ⟨_, rfl, _, _, k1, k2, k3, .i _ _ (.nil _ _ _ _ (fun h => by cases h))⟩
          · obtain ⟨I', η', k1, k2, k3, hI', hle⟩ := conc_new hC hbel hge hcur
            refine ⟨_, rfl, _, _, k1, k2, k3, .i _ _ ?_⟩
            refine .sl 3 rows false g 0 cap' cur 45 (0, 0) cv (by rw [hI', if_pos rfl]) hcap' (fun h => by cases h) hrr (fun i r k a hi hk => ?_) (fun i r k a hi hk => (h2 i r k a hi hk).mono hle)
            have hil : i < rows.length := (List.getElem?_eq_some_iff.1 hi).1
            have hkl : k < 3 := by
              have := (List.getElem?_eq_some_iff.1 hk).1
              rw [hrr i r hi] at this; exact this
            have hj : i * 3 + k < rows.length * 3 := by omega
            have : (cur.toList.take (rows.length * 3))[i * 3 + k]? = some (cv i k) := by
              rw [htk, List.getElem?_map, List.getElem?_range hj]
              simp only [Option.map_some, Option.some.injEq]
              rw [show (i * 3 + k) / 3 = i from by omega, show (i * 3 + k) % 3 = k from by omega]
            rw [List.getElem?_take_of_lt hj] at this
            rw [Nat.zero_add]
            simpa using this
    · cases hr
  · cases hr
end Go.VI

set_option linter.unusedSimpArgs false
set_option linter.unusedVariables false
namespace Go.VI
open Go.Proofs
theorem extOK : ExtOK E := by
  intro f h hf
  rcases E_extI f h hf with ⟨rfl, rfl⟩ | ⟨rfl, rfl⟩ | h2
  · exact ext_text
  · exact ext_clone
  · exact h2.elim
end Go.VI

namespace Go.VI
open Go.Proofs
set_option maxRecDepth 100000
set_option linter.unusedSimpArgs false
set_option linter.unusedVariables false
set_option maxHeartbeats 4000000
abbrev Gl := List UInt8 × Bool × Int
def rowsG (l : List Gl) : List (List IV) := l.map fun g => [.str g.1, .v (.bool g.2.1), .v (.int .i64 g.2.2)]
theorem rowsG_len (l : List Gl) : (rowsG l).length = l.length := by simp [rowsG]
theorem rowsG_at {l : List Gl} {k : Nat} (h : k < l.length) : (rowsG l)[k]? = some [.str l[k].1, .v (.bool l[k].2.1), .v (.int .i64 l[k].2.2)] := by simp [rowsG, h]
abbrev Sp := Nat × Nat
def rowsP (l : List Sp) : List (List IV) := l.map fun p => [.v (.int .i64 p.1), .v (.int .i64 p.2)]
theorem rowsP_len (l : List Sp) : (rowsP l).length = l.length := by simp [rowsP]
theorem rowsP_at {l : List Sp} {k : Nat} (h : k < l.length) : (rowsP l)[k]? = some [.v (.int .i64 l[k].1), .v (.int .i64 l[k].2)] := by simp [rowsP, h]
theorem rowsP_snoc (l : List Sp) (a b : Nat) : rowsP l ++ [[.v (.int .i64 a), .v (.int .i64 b)]] = rowsP (l ++ [(a, b)]) := by simp [rowsP]
theorem rowsP_last (l : List Sp) (p : Sp) : (rowsP (l ++ [p]))[l.length]? = some [.v (.int .i64 p.1), .v (.int .i64 p.2)] := by simp [rowsP]
theorem rowsP_bump (l : List Sp) (a b c : Nat) : (rowsP (l ++ [(a, b)])).set l.length [.v (.int .i64 a), .v (.int .i64 c)] = rowsP (l ++ [(a, c)]) := by simp [rowsP]
def tlS (cur : Option Nat) (i : Nat) : List Sp := match cur with | none => [] | some f => [(f, i)]
def spansL : List Gl → Nat → Option Nat → List Sp
  | [], i, cur => tlS cur i
  | g :: r, i, cur => if g.2.2 = 2 then spansL r (i + 1) (some (cur.getD i)) else tlS cur i ++ spansL r (i + 1) none
def spansS (l : List Gl) : List Sp := spansL l 0 none
theorem tlS_len (cur : Option Nat) (i : Nat) : (tlS cur i).length ≤ 1 := by cases cur <;> simp [tlS]
def atG (l : List Gl) (k : Nat) : Gl := l.getD k ([], false, 0)
theorem atG_eq {l : List Gl} {k : Nat} (h : k < l.length) : atG l k = l[k] := by rw [atG, List.getD_eq_getElem?_getD, List.getElem?_eq_getElem h]; rfl
theorem rowsG_D {l : List Gl} {k : Nat} (h : k < l.length) : (rowsG l)[k]? = some [.str (atG l k).1, .v (.bool (atG l k).2.1), .v (.int .i64 (atG l k).2.2)] := by rw [atG_eq h]; exact rowsG_at h
theorem drop_G {l : List Gl} {k : Nat} (h : k < l.length) : l.drop k = atG l k :: l.drop (k + 1) := by rw [atG_eq h]; exact List.drop_eq_getElem_cons h
def curOK (l : List Gl) (k : Nat) (cur : Option Nat) : Prop := (cur = none ∧ (0 < k → (atG l (k - 1)).2.2 ≠ 2)) ∨ ∃ f, cur = some f ∧ f < k ∧ (atG l (k - 1)).2.2 = 2
theorem l14 (l : List Gl) (hl : l.length ≤ 1000000) : ∀ (n k : Nat) (dn : List Sp) (cur : Option Nat), k + n = l.length → curOK l k cur → dn.length + n ≤ 2000000 →
    rl E 0 14 (loopAt Tryd.f14 0) [(0, .i (.sl 3 (rowsG l) false)), (3, .ref 0 0 0 (dn ++ tlS cur k).length), (6, .i (.sl 3 (rowsG l) false)), (7, .i (.v (.int .i64 l.length))), (8, .i (.v (.int .i64 k)))] [.sl 2 0 (rowsP (dn ++ tlS cur k)) false] =
      some (.exit 0, [(0, .i (.sl 3 (rowsG l) false)), (3, .ref 0 0 0 (dn ++ spansL (l.drop k) k cur).length), (6, .i (.sl 3 (rowsG l) false)), (7, .i (.v (.int .i64 l.length))), (8, .i (.v (.int .i64 l.length))), (9, .i (.v (.bool false)))], [.sl 2 0 (rowsP (dn ++ spansL (l.drop k) k cur)) false]) := by
  intro n
  induction n with
  | zero =>
    intro k dn cur hk hc hd
    obtain rfl : k = l.length := by omega
    rw [List.drop_length, spansL]
    rw [rl_step (fn := Tryd.f14) (k := 0) rfl]
    simp (disch := first | omega | (simp only [List.length_append, List.length_map, List.length_set, List.length_cons, List.length_nil, List.length_take, List.length_drop, rowsG_len, rowsP_len]; omega)) only [va0, va1, va2, va3, va4, va5, va6, va7, va8, va9, va10, va11, va12, va13, va14, va15, vb0, vb1, vb2, vb3, w_i8, w_u8, w_i16, w_u16, w_i32, w_u32, w_i64, w_u64, lt_T, lt_F, le_T, le_F, nlt_T, nlt_F, nle_T, nle_F, List.take_of_length_le, gB, gcW, gcR, posIn, renA, renL, Chunk.ren, Chunk.refs, evOpD, touchD, stepC, isFresh, nFresh, freshOf, mkR, hole, evL, evH, opd, get, putD, ofVal, cellOf, loadE, behind, lenE, idxAddrE, idxE, lookE, lookM, addPtr, intE, strE, unE, convE, AV.int, AV.bool, AV.str, ivs, take, frameOf, firstRegion, refsA, refsL, one, cellsA, floatOk, apartT, List.map, if_true, if_false, E_P, E_glob, reduceCtorEq, beq_self_eq_true, decide_true, decide_false, ↓reduceIte, Nat.reduceEqDiff, cond_true, cond_false, or_true, true_or, or_false, false_or, and_true, true_and, and_self, false_and, and_false, not_true, not_false_iff, Nat.reduceAdd, Nat.reduceSub, Nat.reduceMul, Nat.reduceLT, Nat.reduceLeDiff, Int.reduceToNat, Int.reduceLT, Int.reduceLE, Option.getD, Int.reduceMul, Int.reduceAdd, List.drop, List.take, Nat.reduceBEq, List.isEmpty, Int.reduceEq, Int.reduceNe, Int.reduceNeg, Int.reduceGT, Int.reduceGE, beq_true, beq_false, UInt8.reduceToNat, eqE, eq_self, foldE, maxE, minE, eq_T, eq_F, ndec, odec, adec, sdec, fillA, over, chop, List.replicate, leavesOk, leafOk, cellsEq, cellEq, E_byref, en14, bs36, bs38, rowsG_len, rowsP_len, show ∀ B fr H, execT E B 14 (Code.loop _) fr H = rlM E B 14 (loopAt Tryd.f14 0) [0, 3, 6, 7, 8] [] (matF [(3, 2)] fr H).1 (matB [] (matF [(3, 2)] fr H).1 (matF [(3, 2)] fr H).2) from fun B fr H => rl_introM rfl mt14_3 mb14_3 zf14_3 hd14_3 fr H]
  | succ n ih =>
    intro k dn cur hk hc hd
    have hlt : k < l.length := by omega
    have hrow := rowsG_D hlt
    have htl := tlS_len cur k
    rw [drop_G hlt, spansL]
    by_cases h2 : (atG l k).2.2 = 2
    · rw [if_pos h2]
      have e := ih (k + 1) dn (some (cur.getD k)) (by omega) (.inr ⟨_, rfl, by
        rcases hc with ⟨rfl, _⟩ | ⟨f, rfl, hf, _⟩
        · simp
        · simp; omega, h2⟩) (by omega)
      refine Eq.trans ?_ e
      clear e ih
      rcases hc with ⟨rfl, hp⟩ | ⟨f, rfl, hf, hp⟩
      · rw [show tlS none k = [] from rfl, List.append_nil, show tlS (some ((none : Option Nat).getD k)) (k + 1) = [(k, k + 1)] from rfl]
        have hsn := rowsP_snoc dn k (k + 1)
        have htk : List.take dn.length (rowsP dn) = rowsP dn := List.take_of_length_le (by rw [rowsP_len]; exact Nat.le_refl _)
        by_cases k0 : k = 0
        · subst k0
          generalize atG l 0 = g at *
          have hsn0 : rowsP dn ++ [[.v (.int .i64 0), .v (.int .i64 1)]] = rowsP (dn ++ [(0, 0 + 1)]) := hsn
          rw [rl_step (fn := Tryd.f14) (k := 0) rfl]
          simp (disch := first | omega | (simp only [List.length_append, List.length_map, List.length_set, List.length_cons, List.length_nil, List.length_take, List.length_drop, rowsG_len, rowsP_len]; omega)) only [va0, va1, va2, va3, va4, va5, va6, va7, va8, va9, va10, va11, va12, va13, va14, va15, vb0, vb1, vb2, vb3, w_i8, w_u8, w_i16, w_u16, w_i32, w_u32, w_i64, w_u64, lt_T, lt_F, le_T, le_F, nlt_T, nlt_F, nle_T, nle_F, List.take_of_length_le, gB, gcW, gcR, posIn, renA, renL, Chunk.ren, Chunk.refs, evOpD, touchD, stepC, isFresh, nFresh, freshOf, mkR, hole, evL, evH, opd, get, putD, ofVal, cellOf, loadE, behind, lenE, idxAddrE, idxE, lookE, lookM, addPtr, intE, strE, unE, convE, AV.int, AV.bool, AV.str, ivs, take, frameOf, firstRegion, refsA, refsL, one, cellsA, floatOk, apartT, List.map, if_true, if_false, E_P, E_glob, reduceCtorEq, beq_self_eq_true, decide_true, decide_false, ↓reduceIte, Nat.reduceEqDiff, cond_true, cond_false, or_true, true_or, or_false, false_or, and_true, true_and, and_self, false_and, and_false, not_true, not_false_iff, Nat.reduceAdd, Nat.reduceSub, Nat.reduceMul, Nat.reduceLT, Nat.reduceLeDiff, Int.reduceToNat, Int.reduceLT, Int.reduceLE, Option.getD, Int.reduceMul, Int.reduceAdd, List.drop, List.take, Nat.reduceBEq, List.isEmpty, Int.reduceEq, Int.reduceNe, Int.reduceNeg, Int.reduceGT, Int.reduceGE, beq_true, beq_false, UInt8.reduceToNat, eqE, eq_self, foldE, maxE, minE, eq_T, eq_F, ndec, odec, adec, sdec, fillA, over, chop, List.replicate, leavesOk, leafOk, cellsEq, cellEq, E_byref, en14, bs36, bs38, hrow, hsn0, htk, List.length_append, List.length_singleton, Int.toNat_natCast, rowsG_len, rowsP_len, show ∀ B fr H, execT E B 14 (Code.loop _) fr H = rlM E B 14 (loopAt Tryd.f14 0) [0, 3, 6, 7, 8] [] (matF [(3, 2)] fr H).1 (matB [] (matF [(3, 2)] fr H).1 (matF [(3, 2)] fr H).2) from fun B fr H => rl_introM rfl mt14_3 mb14_3 zf14_3 hd14_3 fr H]
        · obtain ⟨m, rfl⟩ : ∃ m, k = m + 1 := ⟨k - 1, by omega⟩
          have hlt2 : m < l.length := by omega
          have hrow1 := rowsG_D hlt2
          have hp2 := hp (by omega)
          rw [show m + 1 - 1 = m from rfl] at hp2
          generalize atG l (m + 1) = g at *
          generalize atG l m = g1 at *
          have hsn1 : rowsP dn ++ [[.v (.int .i64 ((m + 1 : Nat) : Int)), .v (.int .i64 ((m + 1 + 1 : Nat) : Int))]] = rowsP (dn ++ [(m + 1, m + 1 + 1)]) := hsn
          have hm1 : ((m + 1 : Nat) : Int) - 1 = (m : Nat) := by omega
          rw [rl_step (fn := Tryd.f14) (k := 0) rfl]
          simp (disch := first | omega | (simp only [List.length_append, List.length_map, List.length_set, List.length_cons, List.length_nil, List.length_take, List.length_drop, rowsG_len, rowsP_len]; omega)) only [va0, va1, va2, va3, va4, va5, va6, va7, va8, va9, va10, va11, va12, va13, va14, va15, vb0, vb1, vb2, vb3, w_i8, w_u8, w_i16, w_u16, w_i32, w_u32, w_i64, w_u64, lt_T, lt_F, le_T, le_F, nlt_T, nlt_F, nle_T, nle_F, List.take_of_length_le, gB, gcW, gcR, posIn, renA, renL, Chunk.ren, Chunk.refs, evOpD, touchD, stepC, isFresh, nFresh, freshOf, mkR, hole, evL, evH, opd, get, putD, ofVal, cellOf, loadE, behind, lenE, idxAddrE, idxE, lookE, lookM, addPtr, intE, strE, unE, convE, AV.int, AV.bool, AV.str, ivs, take, frameOf, firstRegion, refsA, refsL, one, cellsA, floatOk, apartT, List.map, if_true, if_false, E_P, E_glob, reduceCtorEq, beq_self_eq_true, decide_true, decide_false, ↓reduceIte, Nat.reduceEqDiff, cond_true, cond_false, or_true, true_or, or_false, false_or, and_true, true_and, and_self, false_and, and_false, not_true, not_false_iff, Nat.reduceAdd, Nat.reduceSub, Nat.reduceMul, Nat.reduceLT, Nat.reduceLeDiff, Int.reduceToNat, Int.reduceLT, Int.reduceLE, Option.getD, Int.reduceMul, Int.reduceAdd, List.drop, List.take, Nat.reduceBEq, List.isEmpty, Int.reduceEq, Int.reduceNe, Int.reduceNeg, Int.reduceGT, Int.reduceGE, beq_true, beq_false, UInt8.reduceToNat, eqE, eq_self, foldE, maxE, minE, eq_T, eq_F, ndec, odec, adec, sdec, fillA, over, chop, List.replicate, leavesOk, leafOk, cellsEq, cellEq, E_byref, en14, bs36, bs38, hrow, hrow1, hp2, hsn1, hm1, htk, List.length_append, List.length_singleton, Int.toNat_natCast, rowsG_len, rowsP_len, show ∀ B fr H, execT E B 14 (Code.loop _) fr H = rlM E B 14 (loopAt Tryd.f14 0) [0, 3, 6, 7, 8] [] (matF [(3, 2)] fr H).1 (matB [] (matF [(3, 2)] fr H).1 (matF [(3, 2)] fr H).2) from fun B fr H => rl_introM rfl mt14_3 mb14_3 zf14_3 hd14_3 fr H]
      · obtain ⟨m, rfl⟩ : ∃ m, k = m + 1 := ⟨k - 1, by omega⟩
        have hlt2 : m < l.length := by omega
        have hrow1 := rowsG_D hlt2
        rw [show m + 1 - 1 = m from rfl] at hp
        rw [show tlS (some f) (m + 1) = [(f, m + 1)] from rfl, show tlS (some ((some f).getD (m + 1))) (m + 1 + 1) = [(f, m + 1 + 1)] from rfl]
        have hla := rowsP_last dn (f, m + 1)
        have hbu : (rowsP (dn ++ [(f, m + 1)])).set dn.length [.v (.int .i64 (f : Nat)), .v (.int .i64 ((m + 1 + 1 : Nat) : Int))] = rowsP (dn ++ [(f, m + 1 + 1)]) := rowsP_bump dn f (m + 1) (m + 1 + 1)
        have hm1 : ((m + 1 : Nat) : Int) - 1 = (m : Nat) := by omega
        have hd1 : ((dn.length + 1 : Nat) : Int) - 1 = (dn.length : Nat) := by omega
        generalize atG l (m + 1) = g at *
        generalize atG l m = g1 at *
        rw [rl_step (fn := Tryd.f14) (k := 0) rfl]
        simp (disch := first | omega | (simp only [List.length_append, List.length_map, List.length_set, List.length_cons, List.length_nil, List.length_take, List.length_drop, rowsG_len, rowsP_len]; omega)) only [va0, va1, va2, va3, va4, va5, va6, va7, va8, va9, va10, va11, va12, va13, va14, va15, vb0, vb1, vb2, vb3, w_i8, w_u8, w_i16, w_u16, w_i32, w_u32, w_i64, w_u64, lt_T, lt_F, le_T, le_F, nlt_T, nlt_F, nle_T, nle_F, List.take_of_length_le, gB, gcW, gcR, posIn, renA, renL, Chunk.ren, Chunk.refs, evOpD, touchD, stepC, isFresh, nFresh, freshOf, mkR, hole, evL, evH, opd, get, putD, ofVal, cellOf, loadE, behind, lenE, idxAddrE, idxE, lookE, lookM, addPtr, intE, strE, unE, convE, AV.int, AV.bool, AV.str, ivs, take, frameOf, firstRegion, refsA, refsL, one, cellsA, floatOk, apartT, List.map, if_true, if_false, E_P, E_glob, reduceCtorEq, beq_self_eq_true, decide_true, decide_false, ↓reduceIte, Nat.reduceEqDiff, cond_true, cond_false, or_true, true_or, or_false, false_or, and_true, true_and, and_self, false_and, and_false, not_true, not_false_iff, Nat.reduceAdd, Nat.reduceSub, Nat.reduceMul, Nat.reduceLT, Nat.reduceLeDiff, Int.reduceToNat, Int.reduceLT, Int.reduceLE, Option.getD, Int.reduceMul, Int.reduceAdd, List.drop, List.take, Nat.reduceBEq, List.isEmpty, Int.reduceEq, Int.reduceNe, Int.reduceNeg, Int.reduceGT, Int.reduceGE, beq_true, beq_false, UInt8.reduceToNat, eqE, eq_self, foldE, maxE, minE, eq_T, eq_F, ndec, odec, adec, sdec, fillA, over, chop, List.replicate, leavesOk, leafOk, cellsEq, cellEq, E_byref, en14, bs36, bs38, hrow, hrow1, hm1, hd1, hla, hbu, List.length_append, List.length_singleton, Int.toNat_natCast, rowsG_len, rowsP_len, show ∀ B fr H, execT E B 14 (Code.loop _) fr H = rlM E B 14 (loopAt Tryd.f14 0) [0, 3, 6, 7, 8] [] (matF [(3, 2)] fr H).1 (matB [] (matF [(3, 2)] fr H).1 (matF [(3, 2)] fr H).2) from fun B fr H => rl_introM rfl mt14_3 mb14_3 zf14_3 hd14_3 fr H]
    · rw [if_neg h2]
      have e := ih (k + 1) (dn ++ tlS cur k) none (by omega) (.inl ⟨rfl, fun _ => h2⟩) (by rw [List.length_append]; omega)
      rw [show tlS none (k + 1) = [] from rfl, List.append_nil, List.append_assoc] at e
      refine Eq.trans ?_ e
      clear e ih
      generalize atG l k = g at *
      generalize dn ++ tlS cur k = dd at *
      rw [rl_step (fn := Tryd.f14) (k := 0) rfl]
      simp (disch := first | omega | (simp only [List.length_append, List.length_map, List.length_set, List.length_cons, List.length_nil, List.length_take, List.length_drop, rowsG_len, rowsP_len]; omega)) only [va0, va1, va2, va3, va4, va5, va6, va7, va8, va9, va10, va11, va12, va13, va14, va15, vb0, vb1, vb2, vb3, w_i8, w_u8, w_i16, w_u16, w_i32, w_u32, w_i64, w_u64, lt_T, lt_F, le_T, le_F, nlt_T, nlt_F, nle_T, nle_F, List.take_of_length_le, gB, gcW, gcR, posIn, renA, renL, Chunk.ren, Chunk.refs, evOpD, touchD, stepC, isFresh, nFresh, freshOf, mkR, hole, evL, evH, opd, get, putD, ofVal, cellOf, loadE, behind, lenE, idxAddrE, idxE, lookE, lookM, addPtr, intE, strE, unE, convE, AV.int, AV.bool, AV.str, ivs, take, frameOf, firstRegion, refsA, refsL, one, cellsA, floatOk, apartT, List.map, if_true, if_false, E_P, E_glob, reduceCtorEq, beq_self_eq_true, decide_true, decide_false, ↓reduceIte, Nat.reduceEqDiff, cond_true, cond_false, or_true, true_or, or_false, false_or, and_true, true_and, and_self, false_and, and_false, not_true, not_false_iff, Nat.reduceAdd, Nat.reduceSub, Nat.reduceMul, Nat.reduceLT, Nat.reduceLeDiff, Int.reduceToNat, Int.reduceLT, Int.reduceLE, Option.getD, Int.reduceMul, Int.reduceAdd, List.drop, List.take, Nat.reduceBEq, List.isEmpty, Int.reduceEq, Int.reduceNe, Int.reduceNeg, Int.reduceGT, Int.reduceGE, beq_true, beq_false, UInt8.reduceToNat, eqE, eq_self, foldE, maxE, minE, eq_T, eq_F, ndec, odec, adec, sdec, fillA, over, chop, List.replicate, leavesOk, leafOk, cellsEq, cellEq, E_byref, en14, bs36, bs38, hrow, h2, rowsG_len, rowsP_len, show ∀ B fr H, execT E B 14 (Code.loop _) fr H = rlM E B 14 (loopAt Tryd.f14 0) [0, 3, 6, 7, 8] [] (matF [(3, 2)] fr H).1 (matB [] (matF [(3, 2)] fr H).1 (matF [(3, 2)] fr H).2) from fun B fr H => rl_introM rfl mt14_3 mb14_3 zf14_3 hd14_3 fr H]
end Go.VI

namespace Go.VI
open Go.Proofs
set_option maxRecDepth 100000
set_option linter.unusedSimpArgs false
set_option linter.unusedVariables false
set_option maxHeartbeats 4000000
theorem l15 (l : List Gl) (hl : l.length ≤ 1000000) : ∀ (n k : Nat) (dn : List Sp) (cur : Option Nat), k + n = l.length → curOK l k cur → dn.length + n ≤ 2000000 →
    rl E 0 15 (loopAt Tryd.f15 0) [(0, .i (.sl 3 (rowsG l) false)), (3, .ref 0 0 0 (dn ++ tlS cur k).length), (4, .i (.v (.int .i64 k)))] [.sl 2 0 (rowsP (dn ++ tlS cur k)) false] =
      some (.exit 0, [(0, .i (.sl 3 (rowsG l) false)), (3, .ref 0 0 0 (dn ++ spansL (l.drop k) k cur).length), (4, .i (.v (.int .i64 l.length))), (9, .i (.v (.bool false)))], [.sl 2 0 (rowsP (dn ++ spansL (l.drop k) k cur)) false]) := by
  intro n
  induction n with
  | zero =>
    intro k dn cur hk hc hd
    obtain rfl : k = l.length := by omega
    rw [List.drop_length, spansL]
    rw [rl_step (fn := Tryd.f15) (k := 0) rfl]
    simp (disch := first | omega | (simp only [List.length_append, List.length_map, List.length_set, List.length_cons, List.length_nil, List.length_take, List.length_drop, rowsG_len, rowsP_len]; omega)) only [va0, va1, va2, va3, va4, va5, va6, va7, va8, va9, va10, va11, va12, va13, va14, va15, vb0, vb1, vb2, vb3, w_i8, w_u8, w_i16, w_u16, w_i32, w_u32, w_i64, w_u64, lt_T, lt_F, le_T, le_F, nlt_T, nlt_F, nle_T, nle_F, List.take_of_length_le, gB, gcW, gcR, posIn, renA, renL, Chunk.ren, Chunk.refs, evOpD, touchD, stepC, isFresh, nFresh, freshOf, mkR, hole, evL, evH, opd, get, putD, ofVal, cellOf, loadE, behind, lenE, idxAddrE, idxE, lookE, lookM, addPtr, intE, strE, unE, convE, AV.int, AV.bool, AV.str, ivs, take, frameOf, firstRegion, refsA, refsL, one, cellsA, floatOk, apartT, List.map, if_true, if_false, E_P, E_glob, reduceCtorEq, beq_self_eq_true, decide_true, decide_false, ↓reduceIte, Nat.reduceEqDiff, cond_true, cond_false, or_true, true_or, or_false, false_or, and_true, true_and, and_self, false_and, and_false, not_true, not_false_iff, Nat.reduceAdd, Nat.reduceSub, Nat.reduceMul, Nat.reduceLT, Nat.reduceLeDiff, Int.reduceToNat, Int.reduceLT, Int.reduceLE, Option.getD, Int.reduceMul, Int.reduceAdd, List.drop, List.take, Nat.reduceBEq, List.isEmpty, Int.reduceEq, Int.reduceNe, Int.reduceNeg, Int.reduceGT, Int.reduceGE, beq_true, beq_false, UInt8.reduceToNat, eqE, eq_self, foldE, maxE, minE, eq_T, eq_F, ndec, odec, adec, sdec, fillA, over, chop, List.replicate, leavesOk, leafOk, cellsEq, cellEq, E_byref, en15, bs36, bs38, rowsG_len, rowsP_len, show ∀ B fr H, execT E B 15 (Code.loop _) fr H = rlM E B 15 (loopAt Tryd.f15 0) [0, 3, 4] [] (matF [(3, 2)] fr H).1 (matB [] (matF [(3, 2)] fr H).1 (matF [(3, 2)] fr H).2) from fun B fr H => rl_introM rfl mt15_3 mb15_3 zf15_3 hd15_3 fr H]
  | succ n ih =>
    intro k dn cur hk hc hd
    have hlt : k < l.length := by omega
    have hrow := rowsG_D hlt
    have htl := tlS_len cur k
    rw [drop_G hlt, spansL]
    by_cases h2 : (atG l k).2.2 = 2
    · rw [if_pos h2]
      have e := ih (k + 1) dn (some (cur.getD k)) (by omega) (.inr ⟨_, rfl, by
        rcases hc with ⟨rfl, _⟩ | ⟨f, rfl, hf, _⟩
        · simp
        · simp; omega, h2⟩) (by omega)
      refine Eq.trans ?_ e
      clear e ih
      rcases hc with ⟨rfl, hp⟩ | ⟨f, rfl, hf, hp⟩
      · rw [show tlS none k = [] from rfl, List.append_nil, show tlS (some ((none : Option Nat).getD k)) (k + 1) = [(k, k + 1)] from rfl]
        have hsn := rowsP_snoc dn k (k + 1)
        have htk : List.take dn.length (rowsP dn) = rowsP dn := List.take_of_length_le (by rw [rowsP_len]; exact Nat.le_refl _)
        by_cases k0 : k = 0
        · subst k0
          generalize atG l 0 = g at *
          have hsn0 : rowsP dn ++ [[.v (.int .i64 0), .v (.int .i64 1)]] = rowsP (dn ++ [(0, 0 + 1)]) := hsn
          rw [rl_step (fn := Tryd.f15) (k := 0) rfl]
          simp (disch := first | omega | (simp only [List.length_append, List.length_map, List.length_set, List.length_cons, List.length_nil, List.length_take, List.length_drop, rowsG_len, rowsP_len]; omega)) only [va0, va1, va2, va3, va4, va5, va6, va7, va8, va9, va10, va11, va12, va13, va14, va15, vb0, vb1, vb2, vb3, w_i8, w_u8, w_i16, w_u16, w_i32, w_u32, w_i64, w_u64, lt_T, lt_F, le_T, le_F, nlt_T, nlt_F, nle_T, nle_F, List.take_of_length_le, gB, gcW, gcR, posIn, renA, renL, Chunk.ren, Chunk.refs, evOpD, touchD, stepC, isFresh, nFresh, freshOf, mkR, hole, evL, evH, opd, get, putD, ofVal, cellOf, loadE, behind, lenE, idxAddrE, idxE, lookE, lookM, addPtr, intE, strE, unE, convE, AV.int, AV.bool, AV.str, ivs, take, frameOf, firstRegion, refsA, refsL, one, cellsA, floatOk, apartT, List.map, if_true, if_false, E_P, E_glob, reduceCtorEq, beq_self_eq_true, decide_true, decide_false, ↓reduceIte, Nat.reduceEqDiff, cond_true, cond_false, or_true, true_or, or_false, false_or, and_true, true_and, and_self, false_and, and_false, not_true, not_false_iff, Nat.reduceAdd, Nat.reduceSub, Nat.reduceMul, Nat.reduceLT, Nat.reduceLeDiff, Int.reduceToNat, Int.reduceLT, Int.reduceLE, Option.getD, Int.reduceMul, Int.reduceAdd, List.drop, List.take, Nat.reduceBEq, List.isEmpty, Int.reduceEq, Int.reduceNe, Int.reduceNeg, Int.reduceGT, Int.reduceGE, beq_true, beq_false, UInt8.reduceToNat, eqE, eq_self, foldE, maxE, minE, eq_T, eq_F, ndec, odec, adec, sdec, fillA, over, chop, List.replicate, leavesOk, leafOk, cellsEq, cellEq, E_byref, en15, bs36, bs38, hrow, hsn0, htk, List.length_append, List.length_singleton, Int.toNat_natCast, rowsG_len, rowsP_len, show ∀ B fr H, execT E B 15 (Code.loop _) fr H = rlM E B 15 (loopAt Tryd.f15 0) [0, 3, 4] [] (matF [(3, 2)] fr H).1 (matB [] (matF [(3, 2)] fr H).1 (matF [(3, 2)] fr H).2) from fun B fr H => rl_introM rfl mt15_3 mb15_3 zf15_3 hd15_3 fr H]
        · obtain ⟨m, rfl⟩ : ∃ m, k = m + 1 := ⟨k - 1, by omega⟩
          have hlt2 : m < l.length := by omega
          have hrow1 := rowsG_D hlt2
          have hp2 := hp (by omega)
          rw [show m + 1 - 1 = m from rfl] at hp2
          generalize atG l (m + 1) = g at *
          generalize atG l m = g1 at *
          have hsn1 : rowsP dn ++ [[.v (.int .i64 ((m + 1 : Nat) : Int)), .v (.int .i64 ((m + 1 + 1 : Nat) : Int))]] = rowsP (dn ++ [(m + 1, m + 1 + 1)]) := hsn
          have hm1 : ((m + 1 : Nat) : Int) - 1 = (m : Nat) := by omega
          rw [rl_step (fn := Tryd.f15) (k := 0) rfl]
          simp (disch := first | omega | (simp only [List.length_append, List.length_map, List.length_set, List.length_cons, List.length_nil, List.length_take, List.length_drop, rowsG_len, rowsP_len]; omega)) only [va0, va1, va2, va3, va4, va5, va6, va7, va8, va9, va10, va11, va12, va13, va14, va15, vb0, vb1, vb2, vb3, w_i8, w_u8, w_i16, w_u16, w_i32, w_u32, w_i64, w_u64, lt_T, lt_F, le_T, le_F, nlt_T, nlt_F, nle_T, nle_F, List.take_of_length_le, gB, gcW, gcR, posIn, renA, renL, Chunk.ren, Chunk.refs, evOpD, touchD, stepC, isFresh, nFresh, freshOf, mkR, hole, evL, evH, opd, get, putD, ofVal, cellOf, loadE, behind, lenE, idxAddrE, idxE, lookE, lookM, addPtr, intE, strE, unE, convE, AV.int, AV.bool, AV.str, ivs, take, frameOf, firstRegion, refsA, refsL, one, cellsA, floatOk, apartT, List.map, if_true, if_false, E_P, E_glob, reduceCtorEq, beq_self_eq_true, decide_true, decide_false, ↓reduceIte, Nat.reduceEqDiff, cond_true, cond_false, or_true, true_or, or_false, false_or, and_true, true_and, and_self, false_and, and_false, not_true, not_false_iff, Nat.reduceAdd, Nat.reduceSub, Nat.reduceMul, Nat.reduceLT, Nat.reduceLeDiff, Int.reduceToNat, Int.reduceLT, Int.reduceLE, Option.getD, Int.reduceMul, Int.reduceAdd, List.drop, List.take, Nat.reduceBEq, List.isEmpty, Int.reduceEq, Int.reduceNe, Int.reduceNeg, Int.reduceGT, Int.reduceGE, beq_true, beq_false, UInt8.reduceToNat, eqE, eq_self, foldE, maxE, minE, eq_T, eq_F, ndec, odec, adec, sdec, fillA, over, chop, List.replicate, leavesOk, leafOk, cellsEq, cellEq, E_byref, en15, bs36, bs38, hrow, hrow1, hp2, hsn1, hm1, htk, List.length_append, List.length_singleton, Int.toNat_natCast, rowsG_len, rowsP_len, show ∀ B fr H, execT E B 15 (Code.loop _) fr H = rlM E B 15 (loopAt Tryd.f15 0) [0, 3, 4] [] (matF [(3, 2)] fr H).1 (matB [] (matF [(3, 2)] fr H).1 (matF [(3, 2)] fr H).2) from fun B fr H => rl_introM rfl mt15_3 mb15_3 zf15_3 hd15_3 fr H]
      · obtain ⟨m, rfl⟩ : ∃ m, k = m + 1 := ⟨k - 1, by omega⟩
        have hlt2 : m < l.length := by omega
        have hrow1 := rowsG_D hlt2
        rw [show m + 1 - 1 = m from rfl] at hp
        rw [show tlS (some f) (m + 1) = [(f, m + 1)] from rfl, show tlS (some ((some f).getD (m + 1))) (m + 1 + 1) = [(f, m + 1 + 1)] from rfl]
        have hla := rowsP_last dn (f, m + 1)
        have hbu : (rowsP (dn ++ [(f, m + 1)])).set dn.length [.v (.int .i64 (f : Nat)), .v (.int .i64 ((m + 1 + 1 : Nat) : Int))] = rowsP (dn ++ [(f, m + 1 + 1)]) := rowsP_bump dn f (m + 1) (m + 1 + 1)
        have hm1 : ((m + 1 : Nat) : Int) - 1 = (m : Nat) := by omega
        have hd1 : ((dn.length + 1 : Nat) : Int) - 1 = (dn.length : Nat) := by omega
        generalize atG l (m + 1) = g at *
        generalize atG l m = g1 at *
        rw [rl_step (fn := Tryd.f15) (k := 0) rfl]
        simp (disch := first | omega | (simp only [List.length_append, List.length_map, List.length_set, List.length_cons, List.length_nil, List.length_take, List.length_drop, rowsG_len, rowsP_len]; omega)) only [va0, va1, va2, va3, va4, va5, va6, va7, va8, va9, va10, va11, va12, va13, va14, va15, vb0, vb1, vb2, vb3, w_i8, w_u8, w_i16, w_u16, w_i32, w_u32, w_i64, w_u64, lt_T, lt_F, le_T, le_F, nlt_T, nlt_F, nle_T, nle_F, List.take_of_length_le, gB, gcW, gcR, posIn, renA, renL, Chunk.ren, Chunk.refs, evOpD, touchD, stepC, isFresh, nFresh, freshOf, mkR, hole, evL, evH, opd, get, putD, ofVal, cellOf, loadE, behind, lenE, idxAddrE, idxE, lookE, lookM, addPtr, intE, strE, unE, convE, AV.int, AV.bool, AV.str, ivs, take, frameOf, firstRegion, refsA, refsL, one, cellsA, floatOk, apartT, List.map, if_true, if_false, E_P, E_glob, reduceCtorEq, beq_self_eq_true, decide_true, decide_false, ↓reduceIte, Nat.reduceEqDiff, cond_true, cond_false, or_true, true_or, or_false, false_or, and_true, true_and, and_self, false_and, and_false, not_true, not_false_iff, Nat.reduceAdd, Nat.reduceSub, Nat.reduceMul, Nat.reduceLT, Nat.reduceLeDiff, Int.reduceToNat, Int.reduceLT, Int.reduceLE, Option.getD, Int.reduceMul, Int.reduceAdd, List.drop, List.take, Nat.reduceBEq, List.isEmpty, Int.reduceEq, Int.reduceNe, Int.reduceNeg, Int.reduceGT, Int.reduceGE, beq_true, beq_false, UInt8.reduceToNat, eqE, eq_self, foldE, maxE, minE, eq_T, eq_F, ndec, odec, adec, sdec, fillA, over, chop, List.replicate, leavesOk, leafOk, cellsEq, cellEq, E_byref, en15, bs36, bs38, hrow, hrow1, hm1, hd1, hla, hbu, List.length_append, List.length_singleton, Int.toNat_natCast, rowsG_len, rowsP_len, show ∀ B fr H, execT E B 15 (Code.loop _) fr H = rlM E B 15 (loopAt Tryd.f15 0) [0, 3, 4] [] (matF [(3, 2)] fr H).1 (matB [] (matF [(3, 2)] fr H).1 (matF [(3, 2)] fr H).2) from fun B fr H => rl_introM rfl mt15_3 mb15_3 zf15_3 hd15_3 fr H]
    · rw [if_neg h2]
      have e := ih (k + 1) (dn ++ tlS cur k) none (by omega) (.inl ⟨rfl, fun _ => h2⟩) (by rw [List.length_append]; omega)
      rw [show tlS none (k + 1) = [] from rfl, List.append_nil, List.append_assoc] at e
      refine Eq.trans ?_ e
      clear e ih
      generalize atG l k = g at *
      generalize dn ++ tlS cur k = dd at *
      rw [rl_step (fn := Tryd.f15) (k := 0) rfl]
      simp (disch := first | omega | (simp only [List.length_append, List.length_map, List.length_set, List.length_cons, List.length_nil, List.length_take, List.length_drop, rowsG_len, rowsP_len]; omega)) only [va0, va1, va2, va3, va4, va5, va6, va7, va8, va9, va10, va11, va12, va13, va14, va15, vb0, vb1, vb2, vb3, w_i8, w_u8, w_i16, w_u16, w_i32, w_u32, w_i64, w_u64, lt_T, lt_F, le_T, le_F, nlt_T, nlt_F, nle_T, nle_F, List.take_of_length_le, gB, gcW, gcR, posIn, renA, renL, Chunk.ren, Chunk.refs, evOpD, touchD, stepC, isFresh, nFresh, freshOf, mkR, hole, evL, evH, opd, get, putD, ofVal, cellOf, loadE, behind, lenE, idxAddrE, idxE, lookE, lookM, addPtr, intE, strE, unE, convE, AV.int, AV.bool, AV.str, ivs, take, frameOf, firstRegion, refsA, refsL, one, cellsA, floatOk, apartT, List.map, if_true, if_false, E_P, E_glob, reduceCtorEq, beq_self_eq_true, decide_true, decide_false, ↓reduceIte, Nat.reduceEqDiff, cond_true, cond_false, or_true, true_or, or_false, false_or, and_true, true_and, and_self, false_and, and_false, not_true, not_false_iff, Nat.reduceAdd, Nat.reduceSub, Nat.reduceMul, Nat.reduceLT, Nat.reduceLeDiff, Int.reduceToNat, Int.reduceLT, Int.reduceLE, Option.getD, Int.reduceMul, Int.reduceAdd, List.drop, List.take, Nat.reduceBEq, List.isEmpty, Int.reduceEq, Int.reduceNe, Int.reduceNeg, Int.reduceGT, Int.reduceGE, beq_true, beq_false, UInt8.reduceToNat, eqE, eq_self, foldE, maxE, minE, eq_T, eq_F, ndec, odec, adec, sdec, fillA, over, chop, List.replicate, leavesOk, leafOk, cellsEq, cellEq, E_byref, en15, bs36, bs38, hrow, h2, rowsG_len, rowsP_len, show ∀ B fr H, execT E B 15 (Code.loop _) fr H = rlM E B 15 (loopAt Tryd.f15 0) [0, 3, 4] [] (matF [(3, 2)] fr H).1 (matB [] (matF [(3, 2)] fr H).1 (matF [(3, 2)] fr H).2) from fun B fr H => rl_introM rfl mt15_3 mb15_3 zf15_3 hd15_3 fr H]
theorem spansL_len : ∀ (l : List Gl) (i : Nat) (cur : Option Nat), (spansL l i cur).length ≤ l.length + (tlS cur i).length
  | [], i, cur => by rw [spansL]; simp
  | g :: r, i, cur => by
    rw [spansL]
    split
    · have := spansL_len r (i + 1) (some (cur.getD i)); rw [List.length_cons]; simp only [tlS, List.length_cons, List.length_nil] at this ⊢; omega
    · have h1 := spansL_len r (i + 1) none
      rw [List.length_append, List.length_cons]
      simp only [tlS, List.length_nil] at h1
      omega
theorem spansS_len (l : List Gl) : (spansS l).length ≤ l.length + 1 := Nat.le_trans (spansL_len l 0 none) (by simp [tlS])
theorem c14 (l : List Gl) (hl : l.length ≤ 1000000) : ∃ L, callT E 14 [.i (.sl 3 (rowsG l) false)] [] = some (.i (.sl 2 (rowsP (spansS l)) false), L) := by
  have h := l14 l hl l.length 0 [] none (by omega) (.inl ⟨rfl, fun h => absurd h (by decide)⟩) (by simp; omega)
  rw [List.drop_zero, List.nil_append, List.nil_append, show spansL l 0 none = spansS l from rfl] at h
  have h' : rl E 0 14 (loopAt Tryd.f14 0) [(0, .i (.sl 3 (rowsG l) false)), (3, .ref 0 0 0 0), (6, .i (.sl 3 (rowsG l) false)), (7, .i (.v (.int .i64 l.length))), (8, .i (.v (.int .i64 0)))] [.sl 2 0 [] false] = _ := h
  have hs := spansS_len l
  have htk : List.take (spansS l).length (rowsP (spansS l)) = rowsP (spansS l) := List.take_of_length_le (by rw [rowsP_len]; exact Nat.le_refl _)
  generalize spansS l = s at *
  rw [callT_eq Tryd.func14 rfl fok14 (by simp [Tryd.ntmps14])]
  simp (disch := first | omega | (simp only [List.length_append, List.length_map, List.length_set, List.length_cons, List.length_nil, List.length_take, List.length_drop, rowsG_len, rowsP_len]; omega)) only [va0, va1, va2, va3, va4, va5, va6, va7, va8, va9, va10, va11, va12, va13, va14, va15, vb0, vb1, vb2, vb3, w_i8, w_u8, w_i16, w_u16, w_i32, w_u32, w_i64, w_u64, lt_T, lt_F, le_T, le_F, nlt_T, nlt_F, nle_T, nle_F, List.take_of_length_le, gB, gcW, gcR, posIn, renA, renL, Chunk.ren, Chunk.refs, evOpD, touchD, stepC, isFresh, nFresh, freshOf, mkR, hole, evL, evH, opd, get, putD, ofVal, cellOf, loadE, behind, lenE, idxAddrE, idxE, lookE, lookM, addPtr, intE, strE, unE, convE, AV.int, AV.bool, AV.str, ivs, take, frameOf, firstRegion, refsA, refsL, one, cellsA, floatOk, apartT, List.map, if_true, if_false, E_P, E_glob, reduceCtorEq, beq_self_eq_true, decide_true, decide_false, ↓reduceIte, Nat.reduceEqDiff, cond_true, cond_false, or_true, true_or, or_false, false_or, and_true, true_and, and_self, false_and, and_false, not_true, not_false_iff, Nat.reduceAdd, Nat.reduceSub, Nat.reduceMul, Nat.reduceLT, Nat.reduceLeDiff, Int.reduceToNat, Int.reduceLT, Int.reduceLE, Option.getD, Int.reduceMul, Int.reduceAdd, List.drop, List.take, Nat.reduceBEq, List.isEmpty, Int.reduceEq, Int.reduceNe, Int.reduceNeg, Int.reduceGT, Int.reduceGE, beq_true, beq_false, UInt8.reduceToNat, eqE, eq_self, foldE, maxE, minE, eq_T, eq_F, ndec, odec, adec, sdec, fillA, over, chop, List.replicate, leavesOk, leafOk, cellsEq, cellEq, E_byref, en14, bs36, bs38, h', htk, rowsG_len, rowsP_len, show ∀ B fr H, execT E B 14 (Code.loop _) fr H = rlM E B 14 (loopAt Tryd.f14 0) [0, 3, 6, 7, 8] [] (matF [(3, 2)] fr H).1 (matB [] (matF [(3, 2)] fr H).1 (matF [(3, 2)] fr H).2) from fun B fr H => rl_introM rfl mt14_3 mb14_3 zf14_3 hd14_3 fr H]
  exact ⟨_, rfl⟩
theorem ik14 (l : List Gl) (hl : l.length ≤ 1000000) (H : Hp) : isoK E (callT E) 14 [.i (.sl 3 (rowsG l) false)] H = some (.i (.sl 2 (rowsP (spansS l)) false), H) := isoK_val rfl rfl rfl (c14 l hl)
theorem c15 (l : List Gl) (hl : l.length ≤ 1000000) : ∃ L, callT E 15 [.i (.sl 3 (rowsG l) false)] [] = some (.i (.sl 2 (rowsP (spansS l)) false), L) := by
  have h := l15 l hl l.length 0 [] none (by omega) (.inl ⟨rfl, fun h => absurd h (by decide)⟩) (by simp; omega)
  rw [List.drop_zero, List.nil_append, List.nil_append, show spansL l 0 none = spansS l from rfl] at h
  have h' : rl E 0 15 (loopAt Tryd.f15 0) [(0, .i (.sl 3 (rowsG l) false)), (3, .ref 0 0 0 0), (4, .i (.v (.int .i64 0)))] [.sl 2 0 [] false] = _ := h
  have hs := spansS_len l
  have htk : List.take (spansS l).length (rowsP (spansS l)) = rowsP (spansS l) := List.take_of_length_le (by rw [rowsP_len]; exact Nat.le_refl _)
  generalize spansS l = s at *
  rw [callT_eq Tryd.func15 rfl fok15 (by simp [Tryd.ntmps15])]
  simp (disch := first | omega | (simp only [List.length_append, List.length_map, List.length_set, List.length_cons, List.length_nil, List.length_take, List.length_drop, rowsG_len, rowsP_len]; omega)) only [va0, va1, va2, va3, va4, va5, va6, va7, va8, va9, va10, va11, va12, va13, va14, va15, vb0, vb1, vb2, vb3, w_i8, w_u8, w_i16, w_u16, w_i32, w_u32, w_i64, w_u64, lt_T, lt_F, le_T, le_F, nlt_T, nlt_F, nle_T, nle_F, List.take_of_length_le, gB, gcW, gcR, posIn, renA, renL, Chunk.ren, Chunk.refs, evOpD, touchD, stepC, isFresh, nFresh, freshOf, mkR, hole, evL, evH, opd, get, putD, ofVal, cellOf, loadE, behind, lenE, idxAddrE, idxE, lookE, lookM, addPtr, intE, strE, unE, convE, AV.int, AV.bool, AV.str, ivs, take, frameOf, firstRegion, refsA, refsL, one, cellsA, floatOk, apartT, List.map, if_true, if_false, E_P, E_glob, reduceCtorEq, beq_self_eq_true, decide_true, decide_false, ↓reduceIte, Nat.reduceEqDiff, cond_true, cond_false, or_true, true_or, or_false, false_or, and_true, true_and, and_self, false_and, and_false, not_true, not_false_iff, Nat.reduceAdd, Nat.reduceSub, Nat.reduceMul, Nat.reduceLT, Nat.reduceLeDiff, Int.reduceToNat, Int.reduceLT, Int.reduceLE, Option.getD, Int.reduceMul, Int.reduceAdd, List.drop, List.take, Nat.reduceBEq, List.isEmpty, Int.reduceEq, Int.reduceNe, Int.reduceNeg, Int.reduceGT, Int.reduceGE, beq_true, beq_false, UInt8.reduceToNat, eqE, eq_self, foldE, maxE, minE, eq_T, eq_F, ndec, odec, adec, sdec, fillA, over, chop, List.replicate, leavesOk, leafOk, cellsEq, cellEq, E_byref, en15, bs36, bs38, h', htk, rowsG_len, rowsP_len, show ∀ B fr H, execT E B 15 (Code.loop _) fr H = rlM E B 15 (loopAt Tryd.f15 0) [0, 3, 4] [] (matF [(3, 2)] fr H).1 (matB [] (matF [(3, 2)] fr H).1 (matF [(3, 2)] fr H).2) from fun B fr H => rl_introM rfl mt15_3 mb15_3 zf15_3 hd15_3 fr H]
  exact ⟨_, rfl⟩
theorem ik15 (l : List Gl) (hl : l.length ≤ 1000000) (H : Hp) : isoK E (callT E) 15 [.i (.sl 3 (rowsG l) false)] H = some (.i (.sl 2 (rowsP (spansS l)) false), H) := isoK_val rfl rfl rfl (c15 l hl)
theorem eq_sp (a1 a2 b1 b2 : Int) : binE Tryd.prog .neq 43 (.agg [.i (.v (.int .i64 a1)), .i (.v (.int .i64 a2))]) (.agg [.i (.v (.int .i64 b1)), .i (.v (.int .i64 b2))]) = some (.i (.v (.bool (!(decide (a1 = b1) && (decide (a2 = b2) && true)))))) := by
  rw [be_aan]
  unfold eqE
  simp only
  rw [if_neg (by rw [eqg43]; decide), agg43, lv43]
  rfl
theorem l13 (s : List Sp) (hl : s.length ≤ 1000001) : ∀ (n k : Nat), k + n = s.length →
    ∃ fr, rl E 0 13 (loopAt Tryd.f13 0) [(0, .i (.sl 2 (rowsP s) false)), (1, .i (.sl 2 (rowsP s) false)), (5, .i (.v (.int .i64 k)))] [] = some (.exit 0, fr, []) := by
  intro n
  induction n with
  | zero =>
    intro k hk
    obtain rfl : k = s.length := by omega
    rw [rl_step (fn := Tryd.f13) (k := 0) rfl]
    simp (disch := first | omega | (simp only [List.length_append, List.length_map, List.length_set, List.length_cons, List.length_nil, List.length_take, List.length_drop, rowsP_len]; omega)) only [va0, va1, va2, va3, va4, va5, va6, va7, va8, va9, va10, va11, va12, va13, va14, va15, vb0, vb1, vb2, vb3, w_i8, w_u8, w_i16, w_u16, w_i32, w_u32, w_i64, w_u64, lt_T, lt_F, le_T, le_F, nlt_T, nlt_F, nle_T, nle_F, List.take_of_length_le, gB, gcW, gcR, posIn, renA, renL, Chunk.ren, Chunk.refs, evOpD, touchD, stepC, isFresh, nFresh, freshOf, mkR, hole, evL, evH, opd, get, putD, ofVal, cellOf, loadE, behind, lenE, idxAddrE, idxE, lookE, lookM, addPtr, intE, strE, unE, convE, AV.int, AV.bool, AV.str, ivs, take, frameOf, firstRegion, refsA, refsL, one, cellsA, floatOk, apartT, List.map, if_true, if_false, E_P, E_glob, reduceCtorEq, beq_self_eq_true, decide_true, decide_false, ↓reduceIte, Nat.reduceEqDiff, cond_true, cond_false, or_true, true_or, or_false, false_or, and_true, true_and, and_self, false_and, and_false, not_true, not_false_iff, Nat.reduceAdd, Nat.reduceSub, Nat.reduceMul, Nat.reduceLT, Nat.reduceLeDiff, Int.reduceToNat, Int.reduceLT, Int.reduceLE, Option.getD, Int.reduceMul, Int.reduceAdd, List.drop, List.take, Nat.reduceBEq, List.isEmpty, Int.reduceEq, Int.reduceNe, Int.reduceNeg, Int.reduceGT, Int.reduceGE, beq_true, beq_false, UInt8.reduceToNat, eqE, eq_self, foldE, maxE, minE, eq_T, eq_F, ndec, odec, adec, sdec, fillA, over, chop, List.replicate, leavesOk, leafOk, cellsEq, cellEq, E_byref, en13, bs38, rowsP_len, show ∀ B fr H, execT E B 13 (Code.loop _) fr H = rlG E B 13 (loopAt Tryd.f13 0) (gcn B (norm [0, 1, 5] fr) H) from fun B fr H => rl_intro rfl mt13_4 mb13_4 zf13_4 hd13_4 fr H]
    exact ⟨_, rfl⟩
  | succ n ih =>
    intro k hk
    have hlt : k < s.length := by omega
    have hrow := rowsP_at hlt
    obtain ⟨fr, e⟩ := ih (k + 1) (by omega)
    refine ⟨fr, Eq.trans ?_ e⟩
    clear e ih
    generalize s[k] = p at *
    rw [rl_step (fn := Tryd.f13) (k := 0) rfl]
    simp (disch := first | omega | (simp only [List.length_append, List.length_map, List.length_set, List.length_cons, List.length_nil, List.length_take, List.length_drop, rowsP_len]; omega)) only [va0, va1, va2, va3, va4, va5, va6, va7, va8, va9, va10, va11, va12, va13, va14, va15, vb0, vb1, vb2, vb3, w_i8, w_u8, w_i16, w_u16, w_i32, w_u32, w_i64, w_u64, lt_T, lt_F, le_T, le_F, nlt_T, nlt_F, nle_T, nle_F, List.take_of_length_le, gB, gcW, gcR, posIn, renA, renL, Chunk.ren, Chunk.refs, evOpD, touchD, stepC, isFresh, nFresh, freshOf, mkR, hole, evL, evH, opd, get, putD, ofVal, cellOf, loadE, behind, lenE, idxAddrE, idxE, lookE, lookM, addPtr, intE, strE, unE, convE, AV.int, AV.bool, AV.str, ivs, take, frameOf, firstRegion, refsA, refsL, one, cellsA, floatOk, apartT, List.map, if_true, if_false, E_P, E_glob, reduceCtorEq, beq_self_eq_true, decide_true, decide_false, ↓reduceIte, Nat.reduceEqDiff, cond_true, cond_false, or_true, true_or, or_false, false_or, and_true, true_and, and_self, false_and, and_false, not_true, not_false_iff, Nat.reduceAdd, Nat.reduceSub, Nat.reduceMul, Nat.reduceLT, Nat.reduceLeDiff, Int.reduceToNat, Int.reduceLT, Int.reduceLE, Option.getD, Int.reduceMul, Int.reduceAdd, List.drop, List.take, Nat.reduceBEq, List.isEmpty, Int.reduceEq, Int.reduceNe, Int.reduceNeg, Int.reduceGT, Int.reduceGE, beq_true, beq_false, UInt8.reduceToNat, eqE, eq_self, foldE, maxE, minE, eq_T, eq_F, ndec, odec, adec, sdec, fillA, over, chop, List.replicate, leavesOk, leafOk, cellsEq, cellEq, E_byref, en13, bs38, hrow, eq_sp, decide_true, Bool.and_true, Bool.not_true, rowsP_len, show ∀ B fr H, execT E B 13 (Code.loop _) fr H = rlG E B 13 (loopAt Tryd.f13 0) (gcn B (norm [0, 1, 5] fr) H) from fun B fr H => rl_intro rfl mt13_4 mb13_4 zf13_4 hd13_4 fr H]
theorem c13 (s : List Sp) (hl : s.length ≤ 1000001) : ∃ L, callT E 13 [.i (.sl 2 (rowsP s) false), .i (.sl 2 (rowsP s) false)] [] = some (.i (.v (.bool true)), L) := by
  obtain ⟨fr, e⟩ := l13 s hl s.length 0 (by omega)
  have e' : rl E 0 13 (loopAt Tryd.f13 0) [(0, .i (.sl 2 (rowsP s) false)), (1, .i (.sl 2 (rowsP s) false)), (5, .i (.v (.int .i64 0)))] [] = _ := e
  rw [callT_eq Tryd.func13 rfl fok13 (by simp [Tryd.ntmps13])]
  simp (disch := first | omega | (simp only [List.length_append, List.length_map, List.length_set, List.length_cons, List.length_nil, List.length_take, List.length_drop, rowsP_len]; omega)) only [va0, va1, va2, va3, va4, va5, va6, va7, va8, va9, va10, va11, va12, va13, va14, va15, vb0, vb1, vb2, vb3, w_i8, w_u8, w_i16, w_u16, w_i32, w_u32, w_i64, w_u64, lt_T, lt_F, le_T, le_F, nlt_T, nlt_F, nle_T, nle_F, List.take_of_length_le, gB, gcW, gcR, posIn, renA, renL, Chunk.ren, Chunk.refs, evOpD, touchD, stepC, isFresh, nFresh, freshOf, mkR, hole, evL, evH, opd, get, putD, ofVal, cellOf, loadE, behind, lenE, idxAddrE, idxE, lookE, lookM, addPtr, intE, strE, unE, convE, AV.int, AV.bool, AV.str, ivs, take, frameOf, firstRegion, refsA, refsL, one, cellsA, floatOk, apartT, List.map, if_true, if_false, E_P, E_glob, reduceCtorEq, beq_self_eq_true, decide_true, decide_false, ↓reduceIte, Nat.reduceEqDiff, cond_true, cond_false, or_true, true_or, or_false, false_or, and_true, true_and, and_self, false_and, and_false, not_true, not_false_iff, Nat.reduceAdd, Nat.reduceSub, Nat.reduceMul, Nat.reduceLT, Nat.reduceLeDiff, Int.reduceToNat, Int.reduceLT, Int.reduceLE, Option.getD, Int.reduceMul, Int.reduceAdd, List.drop, List.take, Nat.reduceBEq, List.isEmpty, Int.reduceEq, Int.reduceNe, Int.reduceNeg, Int.reduceGT, Int.reduceGE, beq_true, beq_false, UInt8.reduceToNat, eqE, eq_self, foldE, maxE, minE, eq_T, eq_F, ndec, odec, adec, sdec, fillA, over, chop, List.replicate, leavesOk, leafOk, cellsEq, cellEq, E_byref, en13, bs38, e', rowsP_len, show ∀ B fr H, execT E B 13 (Code.loop _) fr H = rlG E B 13 (loopAt Tryd.f13 0) (gcn B (norm [0, 1, 5] fr) H) from fun B fr H => rl_intro rfl mt13_4 mb13_4 zf13_4 hd13_4 fr H]
  exact ⟨_, rfl⟩
theorem ik13 (s : List Sp) (hl : s.length ≤ 1000001) (H : Hp) : isoK E (callT E) 13 [.i (.sl 2 (rowsP s) false), .i (.sl 2 (rowsP s) false)] H = some (.i (.v (.bool true)), H) := isoK_val rfl rfl rfl (c13 s hl)
theorem ran_true {f n : Nat} (h : (match call E n f [] [] with | some (.i (.v (.bool true)), _) => true | _ => false) = true) : ∃ L, callT E f [] [] = some (.i (.v (.bool true)), L) := by
  split at h
  · rename_i L hL; exact ⟨L, callT_of hL⟩
  · cases h
theorem ik9 (H : Hp) : isoK E (callT E) 9 [] H = some (.i (.v (.bool true)), H) := isoK_val rfl rfl rfl (ran_true (n := 400) (by kernel_rfl))
theorem law5 (l : List Gl) (hl : l.length ≤ 9223372036854775807) : ∃ L, callT E 5 [.i (.sl 3 (rowsG l) false)] [] = some (.i (.v (.bool true)), L) := by
  by_cases h20 : 20 < (l.length : Int)
  · rw [callT_eq Tryd.func5 rfl fok5 (by simp [Tryd.ntmps5])]
    simp (disch := first | omega | (simp only [List.length_append, List.length_map, List.length_set, List.length_cons, List.length_nil, List.length_take, List.length_drop, rowsG_len]; omega)) only [va0, va1, va2, va3, va4, va5, va6, va7, va8, va9, va10, va11, va12, va13, va14, va15, vb0, vb1, vb2, vb3, w_i8, w_u8, w_i16, w_u16, w_i32, w_u32, w_i64, w_u64, lt_T, lt_F, le_T, le_F, nlt_T, nlt_F, nle_T, nle_F, List.take_of_length_le, gB, gcW, gcR, posIn, renA, renL, Chunk.ren, Chunk.refs, evOpD, touchD, stepC, isFresh, nFresh, freshOf, mkR, hole, evL, evH, opd, get, putD, ofVal, cellOf, loadE, behind, lenE, idxAddrE, idxE, lookE, lookM, addPtr, intE, strE, unE, convE, AV.int, AV.bool, AV.str, ivs, take, frameOf, firstRegion, refsA, refsL, one, cellsA, floatOk, apartT, List.map, if_true, if_false, E_P, E_glob, reduceCtorEq, beq_self_eq_true, decide_true, decide_false, ↓reduceIte, Nat.reduceEqDiff, cond_true, cond_false, or_true, true_or, or_false, false_or, and_true, true_and, and_self, false_and, and_false, not_true, not_false_iff, Nat.reduceAdd, Nat.reduceSub, Nat.reduceMul, Nat.reduceLT, Nat.reduceLeDiff, Int.reduceToNat, Int.reduceLT, Int.reduceLE, Option.getD, Int.reduceMul, Int.reduceAdd, List.drop, List.take, Nat.reduceBEq, List.isEmpty, Int.reduceEq, Int.reduceNe, Int.reduceNeg, Int.reduceGT, Int.reduceGE, beq_true, beq_false, UInt8.reduceToNat, eqE, eq_self, foldE, maxE, minE, eq_T, eq_F, ndec, odec, adec, sdec, fillA, over, chop, List.replicate, leavesOk, leafOk, cellsEq, cellEq, E_byref, en5, bs36, bs38, h20, rowsG_len, ik9]
    exact ⟨_, rfl⟩
  · have h1 := fun H => ik14 l (by omega) H
    have h2 := fun H => ik15 l (by omega) H
    have hs := spansS_len l
    have h3 := fun H => ik13 (spansS l) (by omega) H
    generalize spansS l = s at *
    rw [callT_eq Tryd.func5 rfl fok5 (by simp [Tryd.ntmps5])]
    simp (disch := first | omega | (simp only [List.length_append, List.length_map, List.length_set, List.length_cons, List.length_nil, List.length_take, List.length_drop, rowsG_len]; omega)) only [va0, va1, va2, va3, va4, va5, va6, va7, va8, va9, va10, va11, va12, va13, va14, va15, vb0, vb1, vb2, vb3, w_i8, w_u8, w_i16, w_u16, w_i32, w_u32, w_i64, w_u64, lt_T, lt_F, le_T, le_F, nlt_T, nlt_F, nle_T, nle_F, List.take_of_length_le, gB, gcW, gcR, posIn, renA, renL, Chunk.ren, Chunk.refs, evOpD, touchD, stepC, isFresh, nFresh, freshOf, mkR, hole, evL, evH, opd, get, putD, ofVal, cellOf, loadE, behind, lenE, idxAddrE, idxE, lookE, lookM, addPtr, intE, strE, unE, convE, AV.int, AV.bool, AV.str, ivs, take, frameOf, firstRegion, refsA, refsL, one, cellsA, floatOk, apartT, List.map, if_true, if_false, E_P, E_glob, reduceCtorEq, beq_self_eq_true, decide_true, decide_false, ↓reduceIte, Nat.reduceEqDiff, cond_true, cond_false, or_true, true_or, or_false, false_or, and_true, true_and, and_self, false_and, and_false, not_true, not_false_iff, Nat.reduceAdd, Nat.reduceSub, Nat.reduceMul, Nat.reduceLT, Nat.reduceLeDiff, Int.reduceToNat, Int.reduceLT, Int.reduceLE, Option.getD, Int.reduceMul, Int.reduceAdd, List.drop, List.take, Nat.reduceBEq, List.isEmpty, Int.reduceEq, Int.reduceNe, Int.reduceNeg, Int.reduceGT, Int.reduceGE, beq_true, beq_false, UInt8.reduceToNat, eqE, eq_self, foldE, maxE, minE, eq_T, eq_F, ndec, odec, adec, sdec, fillA, over, chop, List.replicate, leavesOk, leafOk, cellsEq, cellEq, E_byref, en5, bs36, bs38, h20, h1, h2, h3, rowsG_len, ik9]
    exact ⟨_, rfl⟩
theorem c5 (l : List Gl) (hl : l.length ≤ 9223372036854775807) : ∃ L, callT E 5 [.i (.sl 3 (l.map fun a => [.str a.1, .v (.bool a.2.1), .v (.int .i64 a.2.2)]) false)] [] = some (.i (.v (.bool true)), L) := law5 l hl
end Go.VI

