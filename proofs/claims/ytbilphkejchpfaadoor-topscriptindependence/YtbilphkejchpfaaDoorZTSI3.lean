import Derived.LoopN
import Derived.LoopNIn
import Derived.OrdersIn
import Derived.RangeFuncLeaves
import Derived.RangeFuncRecord
import Derived.RangeFuncSeq
import Derived.Below
import Derived.Scope
import Derived.ChangeSame
import Derived.ChangeSlices
import Derived.WideShapes
import Derived.RowKit
import Derived.WideKeyArgs
import Derived.ChangeArms
import Derived.ChangeReads
import Derived.ChangeMaps5
import Derived.Lib.Bytealg
import Derived.Lib.ItoaNum
import Derived.Lib.SlTrimSet
import Derived.Test.YtbilphkejchpfaaDoorZTSI2
set_option linter.unusedSimpArgs false
set_option linter.unusedVariables false
set_option linter.unusedSimpArgs false
set_option linter.unusedVariables false
namespace Go.VI
section
variable {E : Env} {I : Imm} {η : Eta} {H : Hp} {w : World}

theorem conc_drawn (hC : Conc E I η H w) (n : Nat) : Conc E I η H { w with drawn := n } :=
 ⟨hC.imm, fun c x h => by have := hC.ch c x h; cases x <;> exact this, hC.inj, hC.sep, hC.glob⟩
theorem trans_drawn {I' : Imm} {η' : Eta} {w' : World} {n : Nat} (h : Trans I η { w with drawn := n } I' η' w') : Trans I η w I' η' w' :=
 ⟨h.os, h.tape, h.output, h.size, h.frame, h.imm, h.immNew, h.own⟩

theorem apartT_symm {a b : List Nat} (h : apartT a b = true) : apartT b a = true := by
 simp only [apartT, List.all_eq_true]
 intro c hc
 have : c ∉ a := fun ha => apartT_spec h ha hc
 simpa using this

theorem draw_compat {ops : Array Oper} {ts : List (List Nat)} {pairs : List (Nat × Nat)} (hd : drawOk E ops = true) (hfl : (floats E ops).all (fun p => pairs.contains p) = true) (hk : pairs.all (floatOk ts) = true) :
  ∀ j i, j < i → i < ops.size → bound (Region.before ops) j i = false → CompatI E ops (fun k => ts.getD k []) j i := by
 intro j i hji hi hb x y hx hy
 unfold drawOk at hd
 simp only [Bool.and_eq_true, List.all_eq_true, List.mem_range] at hd
 have h1 := hd.2 i hi j hji
 rw [hx, hy] at h1
 simp only [hb, Bool.false_or, Bool.and_eq_true, Bool.not_eq_true', Bool.and_eq_false_iff] at h1
 refine ⟨h1.1, fun ⟨ha, hb'⟩ => ?_, fun hf => ?_⟩
 ·rcases h1.2 with h | h
  ·rw [ha] at h; cases h
  ·rw [hb'] at h; cases h
 ·have hm : (j, i) ∈ floats E ops := by
   unfold floats
   simp only [List.mem_flatMap, List.mem_range, List.mem_filterMap]
   refine ⟨i, hi, j, hji, ?_⟩
   rw [hx, hy]
   have : ((heavy E x.op && readsH y.op) || (heavy E y.op && readsH x.op)) = true := by
    rcases hf with ⟨a, b⟩ | ⟨a, b⟩ <;> simp [a, b]
   simp [hb, this]
  have hc := (List.all_eq_true.1 hfl) _ hm
  have hc' : (j, i) ∈ pairs := by simpa using hc
  have := (List.all_eq_true.1 hk) _ hc'
  unfold floatOk at this
  exact ⟨this, apartT_symm this⟩

theorem draw_back {ops : Array Oper} (hd : drawOk E ops = true) : ∀ (i : Nat) (o : Oper), ops[i]? = some o → ∀ e ∈ o.after, Region.binds .any e = true → e.on < i := by
 intro i o ho e he hb
 unfold drawOk at hd
 simp only [Bool.and_eq_true, List.all_eq_true, List.mem_range] at hd
 have h1 := hd.1.2 i (Array.getElem?_eq_some_iff.1 ho).1
 rw [ho] at h1
 simp only [Array.all_eq_true] at h1
 obtain ⟨k, hk, rfl⟩ := Array.mem_iff_getElem.1 he
 have := h1 k hk
 simpa [hb] using this

theorem draw_ok {cl : CallF} {ro : Option Nat} {nn : Nat} (hcl : CallOK E (callIso E cl)) {id : Nat} {ops : Array Oper} {fr fr' : Fr} {H' : Hp} {ts : List (List Nat)} {a : Act} {Q : Exit → Act → World → Prop}
  (h : evT E cl ops.toList ops.toList fr H = some (fr', H', ts)) {pairs : List (Nat × Nat)} (hk : pairs.all (floatOk ts) = true) (hd : drawOk E ops = true) (hfl : (floats E ops).all (fun p => pairs.contains p) = true)
  (hm : E.P.follows .mixedOrders = true) (hC : Conc E I η H w) (hf : FrOK I η H fr a.tmps) (hdst : DstOK a.tmps.size ops.toList)
  (hQ : ∀ a' w' fr3, FrEq fr' fr3 → a'.defers = a.defers → a'.tmps.size = a.tmps.size → After E I η H w H' w' (fun I' η' => FrOK I' η' H' fr3 a'.tmps) → Q .normal a' w') : (Code.region id ops true).wpIn (Fe ro) nn E.P Q a w := by
 refine wpIn_region_any hm ?_
 have hrun : Run E cl ops (fun k => ts.getD k []) (List.range' 0 ops.toList.length) fr H fr' H' :=
  run_of_evT ops.toList 0 fr H fr' H' ts h (fun j => by simp) (fun j _ => by simp)
 have := any_ok hcl (ro := ro) (nn := nn) (ops := ops) (Q := Q) (fr2 := fr') (n0 := a.tmps.size) (d0 := a.defers) (draw_compat hd hfl hk) (draw_back hd) hdst (List.range' 0 ops.toList.length) (Array.replicate ops.size false) I η fr H a { w with drawn := w.drawn + 1 } fr'
  (List.pairwise_lt_range' ..) (fun i => by
   simp only [List.mem_range', Array.length_toList]
   constructor
   ·rintro ⟨k, hk, rfl⟩
    refine ⟨by omega, ?_⟩
    rw [Array.getD_eq_getD_getElem?, Array.getElem?_replicate]; split <;> rfl
   ·rintro ⟨h1, _⟩; exact ⟨i, h1, by omega⟩) (by simp) (fun i o ho hl => by
   rw [Array.getD_eq_getD_getElem?, Array.getElem?_replicate] at hl; split at hl <;> simp at hl) hrun (conc_drawn hC _) hf rfl rfl
   (fun a' w' fr3 he hdef hs hA => by
    obtain ⟨I2, η2, k1, k2, k3, k4⟩ := hA
    exact hQ a' w' fr3 he hdef hs ⟨I2, η2, k1, trans_drawn k2, k3, k4⟩)
 simpa using this

theorem draw_compatD {ops : Array Oper} {ts : List (List Nat)} {pairs : List (Nat × Nat)} (hd : drawOkD E ops = true) (hfl : (floatsD E ops).all (fun p => pairs.contains p) = true) (hk : pairs.all (floatOk ts) = true) :
  ∀ j i, j < i → i < ops.size → bound (Region.before ops) j i = false → CompatJ E ops (fun k => ts.getD k []) j i := by
 intro j i hji hi hb x y hx hy
 unfold drawOkD at hd
 simp only [Bool.and_eq_true, List.all_eq_true, List.mem_range] at hd
 have h1 := hd.2 i hi j hji
 rw [hx, hy] at h1
 simp only [hb, Bool.false_or, Bool.and_eq_true, Bool.or_eq_true, Bool.not_eq_true', Bool.and_eq_false_iff] at h1
 refine ⟨h1.1, fun ha hb' => ?_, fun hf => ?_⟩
 ·rcases h1.2 with (h | h) | h
  ·rcases h with h | h
   ·rw [ha] at h; cases h
   ·rw [hb'] at h; cases h
  ·exact .inl h
  ·exact .inr h
 ·have hm : (j, i) ∈ floatsD E ops := by
   unfold floatsD
   simp only [List.mem_flatMap, List.mem_range, List.mem_filterMap]
   refine ⟨i, hi, j, hji, ?_⟩
   rw [hx, hy]
   have : ((heavy E x.op && (readsH y.op || heavy E y.op)) || (heavy E y.op && (readsH x.op || heavy E x.op))) = true := by
    rcases hf with ⟨a, b | b⟩ | ⟨a, b | b⟩ <;> simp [a, b]
   simp [hb, this]
  have hc := (List.all_eq_true.1 hfl) _ hm
  have hc' : (j, i) ∈ pairs := by simpa using hc
  have := (List.all_eq_true.1 hk) _ hc'
  unfold floatOk at this
  exact ⟨this, apartT_symm this⟩

theorem draw_backD {ops : Array Oper} (hd : drawOkD E ops = true) : ∀ (i : Nat) (o : Oper), ops[i]? = some o → ∀ e ∈ o.after, Region.binds .any e = true → e.on < i := by
 intro i o ho e he hb
 unfold drawOkD at hd
 simp only [Bool.and_eq_true, List.all_eq_true, List.mem_range] at hd
 have h1 := hd.1.2 i (Array.getElem?_eq_some_iff.1 ho).1
 rw [ho] at h1
 simp only [Array.all_eq_true] at h1
 obtain ⟨k, hk, rfl⟩ := Array.mem_iff_getElem.1 he
 have := h1 k hk
 simpa [hb] using this

theorem draw_okD {cl : CallF} {ro : Option Nat} {nn : Nat} (hcl : CallOK E (callIso E cl)) {id : Nat} {ops : Array Oper} {fr fr' : Fr} {H' : Hp} {ts : List (List Nat)} {a : Act} {Q : Exit → Act → World → Prop}
  (h : evD E cl ops.toList H.length ops.toList fr (H ++ List.replicate (nFresh ops.toList) hole) = some (fr', H', ts)) {pairs : List (Nat × Nat)} (hk : pairs.all (floatOk ts) = true) (hd : drawOkD E ops = true) (hfl : (floatsD E ops).all (fun p => pairs.contains p) = true)
  (hm : E.P.follows .mixedOrders = true) (hC : Conc E I η H w) (hf : FrOK I η H fr a.tmps) (hdst : DstOK a.tmps.size ops.toList)
  (hQ : ∀ a' w' fr3, FrEq fr' fr3 → a'.defers = a.defers → a'.tmps.size = a.tmps.size → After E I η H w H' w' (fun I' η' => FrOK I' η' H' fr3 a'.tmps) → Q .normal a' w') : (Code.region id ops true).wpIn (Fe ro) nn E.P Q a w := by
 refine wpIn_region_any hm ?_
 obtain ⟨hC0, hm0⟩ := conc_holes hC (nFresh ops.toList)
 have hrun : RunD E cl ops (fun k => ts.getD k []) (fun i => H.length + nFresh (ops.toList.take i)) (List.range' 0 ops.toList.length) fr (H ++ List.replicate (nFresh ops.toList) hole) fr' H' :=
  run_of_evD ops.toList 0 _ fr _ fr' H' ts h (fun j => by simp) (fun j _ => by simp) (fun j _ => by simp)
 have := any_okD hcl (ro := ro) (nn := nn) (ops := ops) (Q := Q) (fr2 := fr') (n0 := a.tmps.size) (d0 := a.defers) (draw_compatD hd hfl hk) (draw_backD hd) hdst (List.range' 0 ops.toList.length) (Array.replicate ops.size false) I η fr _ a { w with drawn := w.drawn + 1 } fr'
  (List.pairwise_lt_range' ..) (fun i => by
   simp only [List.mem_range', Array.length_toList]
   constructor
   ·rintro ⟨k, hk, rfl⟩
    refine ⟨by omega, ?_⟩
    rw [Array.getD_eq_getD_getElem?, Array.getElem?_replicate]; split <;> rfl
   ·rintro ⟨h1, _⟩; exact ⟨i, h1, by omega⟩) (by simp) (fun i o ho hl => by
   rw [Array.getD_eq_getD_getElem?, Array.getElem?_replicate] at hl; split at hl <;> simp at hl) hrun (conc_drawn hC0 _) (hf.mono hm0) rfl rfl
   (fun a' w' fr3 he hdef hs hA => by
    obtain ⟨I2, η2, k1, k2, k3, k4⟩ := hA
    exact hQ a' w' fr3 he hdef hs ⟨I2, η2, k1, trans_drawn k2, hm0.trans k3, k4⟩)
 simpa using this

def exOf : Ex → Exit
 | .normal => .normal
 | .exit id => .exit id
 | .ret => .ret

theorem frOK_eq {fr fr' : Fr} {tmps : Array Value} (he : FrEq fr fr') (h : FrOK I η H fr' tmps) : FrOK I η H fr tmps := fun k => by rw [he k]; exact h k

theorem opd_bool {fr : Fr} {a : Act} (hC : Conc E I η H w) (hf : FrOK I η H fr a.tmps) {c : Operand} {b : Bool} (h : opd E fr c = .i (.v (.bool b))) : a.eval c = .bool b := by
 have := opd_ok hC hf c
 rw [h] at this
 exact relA_v this

def MonoB (B : Nat) (I : Imm) (η : Eta) (H : Hp) (I' : Imm) (η' : Eta) (H' : Hp) : Prop := ∀ a v, (∀ d ∈ refsA a, d < B) → RelA I η H a v → RelA I' η' H' a v
theorem MonoB.trans {B : Nat} {I η H I' η' H' I'' η'' H''} (h : MonoB B I η H I' η' H') (k : MonoB B I' η' H' I'' η'' H'') : MonoB B I η H I'' η'' H'' := fun a v hd r => k a v hd (h a v hd r)
def AfterB (E : Env) (B : Nat) (I : Imm) (η : Eta) (H : Hp) (w : World) (H' : Hp) (w' : World) (Q : Imm → Eta → Prop) : Prop :=
 ∃ I' η', Conc E I' η' H' w' ∧ Trans I η w I' η' w' ∧ MonoB B I η H I' η' H' ∧ Q I' η'
theorem After.b {B : Nat} {H' : Hp} {w' : World} {Q : Imm → Eta → Prop} (h : After E I η H w H' w' Q) : AfterB E B I η H w H' w' Q := by
 obtain ⟨I', η', h1, h2, h3, h4⟩ := h
 exact ⟨I', η', h1, h2, fun a v _ r => h3 a v r, h4⟩
theorem ren_id {ρ : Nat → Option Nat} : (∀ a, (∀ d ∈ refsA a, ρ d = some d) → renA ρ a = a) ∧ (∀ l, (∀ d ∈ refsL l, ρ d = some d) → renL ρ l = l) := by
 refine ⟨fun a => ?_, fun l => ?_⟩
 ·induction a using AV.rec (motive_2 := fun l => (∀ d ∈ refsL l, ρ d = some d) → renL ρ l = l) <;> (try intro h) <;> simp_all [refsA, refsL, renA, renL]
 ·induction l using AV.rec_1 (motive_1 := fun a => (∀ d ∈ refsA a, ρ d = some d) → renA ρ a = a) <;> (try intro h) <;> simp_all [refsA, refsL, renA, renL]
theorem gcR_ok {B : Nat} (hB : B ≤ H.length) (fr : Fr) : (gcR B fr H).Nodup ∧ ∀ c ∈ gcR B fr H, c < H.length := by
 obtain ⟨h1, h2⟩ := reach_ok H 64 (refsL (fr.map (·.2)) ++ (H.take B).flatMap Chunk.refs) [] (by simp) (by simp)
 unfold gcR
 refine ⟨List.nodup_append.2 ⟨List.nodup_range, h1.filter _, fun a ha b hb => ?_⟩, fun c hc => ?_⟩
 ·simp at ha hb; omega
 ·simp only [List.mem_append, List.mem_range, List.mem_filter] at hc
  rcases hc with hc | hc
  ·omega
  ·exact h2 c hc.1
theorem get_ren (ρ : Nat → Option Nat) (k : Nat) : ∀ fr : Fr, get k (fr.map fun x => (x.1, renA ρ x.2)) = renA ρ (get k fr)
 | [] => by simp [get, renA]
 | (j, a) :: fr => by
  simp only [List.map_cons, get]
  split
  ·rfl
  ·exact get_ren ρ k fr
theorem gc_ok (B : Nat) {fr : Fr} {tmps : Array Value} (hC : Conc E I η H w) (hf : FrOK I η H fr tmps) :
  ∃ η', Conc E I η' (gc B fr H).2 w ∧ FrOK I η' (gc B fr H).2 (gc B fr H).1 tmps ∧ (∀ c b n, η' c = some (b, n) → ∃ c', η c' = some (b, n)) ∧ MonoB B I η H I η' (gc B fr H).2 := by
 unfold gc
 split
 ·rename_i hB
  obtain ⟨hn, hlt⟩ := gcR_ok hB fr
  refine ⟨locEta η (gcR B fr H), loc_conc hC hn hlt, fun k => ?_, fun c b n h => ?_, fun a v hd r => ?_⟩
  ·show RelA _ _ _ (get k (fr.map fun x => (x.1, renA (posIn (gcR B fr H)) x.2))) _
   rw [get_ren]
   exact ren_ok (loc_ren hn hlt) (hf k)
  ·unfold locEta at h
   split at h
   ·exact ⟨_, h⟩
   ·cases h
  ·have := ren_ok (loc_ren (η := η) hn hlt) r
   rw [ren_id.1 a fun d hd' => posIn_get hn (by
    unfold gcR
    have := hd d hd'
    rw [List.getElem?_append_left (by simpa using this)]
    simp [this])] at this
   exact this
 ·exact ⟨η, hC, hf, fun c b n h => ⟨c, h⟩, fun a v _ r => r⟩

theorem cnL_map (B : Nat) (H : Hp) : ∀ l : List AV, cnL B H l = l.map (cnA B H)
 | [] => by simp [cnL]
 | a :: l => by simp [cnL, cnL_map B H l]
theorem cnHs_get (B : Nat) (H : Hp) : ∀ (l : Hp) (k c : Nat), (cnHs B H k l)[c]? = (l[c]?).map (cnC B H (k + c))
 | [], k, c => by simp [cnHs]
 | x :: l, k, 0 => by simp [cnHs]
 | x :: l, k, c + 1 => by
  have := cnHs_get B H l (k + 1) c
  simp only [cnHs, List.getElem?_cons_succ, this]
  rw [show k + 1 + c = k + (c + 1) by omega]
theorem cnHs_len (B : Nat) (H : Hp) : ∀ (l : Hp) (k : Nat), (cnHs B H k l).length = l.length
 | [], k => rfl
 | x :: l, k => by simp [cnHs, cnHs_len B H l]
theorem cn_at (B : Nat) (H : Hp) (c : Nat) : (cnHs B H 0 H)[c]? = (H[c]?).map (cnC B H c) := by
 rw [cnHs_get]; simp
theorem cn_sl {B : Nat} {c sz g : Nat} {rows : List (List IV)} {ex : Bool} (h : (cnHs B H 0 H)[c]? = some (.sl sz g rows ex)) :
  ∃ g0 ex0, H[c]? = some (.sl sz g0 rows ex0) ∧ ((c < B ∧ g = g0 ∧ ex = ex0) ∨ (B ≤ c ∧ g = 0 ∧ ex = false)) := by
 rw [cn_at] at h
 cases hH : H[c]? with
 | none => rw [hH] at h; cases h
 | some x =>
  rw [hH] at h
  cases x with
  | sl sz0 g0 rows0 ex0 =>
   simp only [Option.map_some, cnC, Option.some.injEq] at h
   split at h
   ·cases h; exact ⟨_, _, rfl, .inl ⟨by assumption, rfl, rfl⟩⟩
   ·cases h; exact ⟨_, _, rfl, .inr ⟨by omega, rfl, rfl⟩⟩
  | _ => simp [cnC] at h
theorem cn_fz {B : Nat} {c sz g : Nat} {rows : List (List IV)} {ex : Bool} (h : (cnHs B H 0 H)[c]? = some (.fz sz g rows ex)) : H[c]? = some (.fz sz g rows ex) := by
 rw [cn_at] at h
 cases hH : H[c]? with
 | none => rw [hH] at h; cases h
 | some x =>
  rw [hH] at h
  cases x with
  | sl sz0 g0 rows0 ex0 => simp only [Option.map_some, cnC, Option.some.injEq] at h; split at h <;> cases h
  | fz => simpa [cnC] using h
  | _ => simp [cnC] at h
theorem cn_iter {B : Nat} {c : Nat} {s : List UInt8} {p : Nat} (h : (cnHs B H 0 H)[c]? = some (.iter s p)) : H[c]? = some (.iter s p) := by
 rw [cn_at] at h
 cases hH : H[c]? with
 | none => rw [hH] at h; cases h
 | some x =>
  rw [hH] at h
  cases x with
  | sl sz0 g0 rows0 ex0 => simp only [Option.map_some, cnC, Option.some.injEq] at h; split at h <;> cases h
  | iter => simpa [cnC] using h
  | _ => simp [cnC] at h
theorem cn_map {B : Nat} {c : Nat} {es : List (IV × IV)} (h : (cnHs B H 0 H)[c]? = some (.map es)) : H[c]? = some (.map es) := by
 rw [cn_at] at h
 cases hH : H[c]? with
 | none => rw [hH] at h; cases h
 | some x =>
  rw [hH] at h
  cases x with
  | sl sz0 g0 rows0 ex0 => simp only [Option.map_some, cnC, Option.some.injEq] at h; split at h <;> cases h
  | map => simpa [cnC] using h
  | _ => simp [cnC] at h
theorem cn_buf {B : Nat} {c : Nat} {t : Nat} {l : List UInt8} (h : (cnHs B H 0 H)[c]? = some (.buf t l)) : H[c]? = some (.buf t l) := by
 rw [cn_at] at h
 cases hH : H[c]? with
 | none => rw [hH] at h; cases h
 | some x =>
  rw [hH] at h
  cases x with
  | sl sz0 g0 rows0 ex0 => simp only [Option.map_some, cnC, Option.some.injEq] at h; split at h <;> cases h
  | buf => simpa [cnC] using h
  | _ => simp [cnC] at h
theorem cn_tb {B : Nat} {c : Nat} {t : Nat} {cells : List AV} (h : (cnHs B H 0 H)[c]? = some (.tb t cells)) : ∃ cells0, H[c]? = some (.tb t cells0) ∧ cells = cnL B H cells0 := by
 rw [cn_at] at h
 cases hH : H[c]? with
 | none => rw [hH] at h; cases h
 | some x =>
  rw [hH] at h
  cases x with
  | sl sz0 g0 rows0 ex0 => simp only [Option.map_some, cnC, Option.some.injEq] at h; split at h <;> cases h
  | tb t0 cells0 => simp only [Option.map_some, cnC, Option.some.injEq, Chunk.tb.injEq] at h; obtain ⟨rfl, h⟩ := h; exact ⟨_, rfl, h.symm⟩
  | _ => simp [cnC] at h
theorem cn_mref {B : Nat} {c : Nat} {v : Value} (r : RelA I η H (.mref c) v) : RelA I η (cnHs B H 0 H) (.mref c) v := by
 cases r with
 | mref c v hc hm ht hu hp =>
  exact .mref _ _ (by rw [cnHs_len]; exact hc) (fun es h => hm _ (cn_map h)) (fun t cells h => by obtain ⟨c0, h1, _⟩ := cn_tb h; exact ht _ _ h1) (fun t l h => hu _ _ (cn_buf h)) hp
theorem cn_box {B : Nat} {c : Nat} {cells : List AV} (h : (cnHs B H 0 H)[c]? = some (.box cells)) : ∃ cells0, H[c]? = some (.box cells0) ∧ cells = cnL B H cells0 := by
 rw [cn_at] at h
 cases hH : H[c]? with
 | none => rw [hH] at h; cases h
 | some x =>
  rw [hH] at h
  cases x with
  | sl sz0 g0 rows0 ex0 => simp only [Option.map_some, cnC, Option.some.injEq] at h; split at h <;> cases h
  | box cells0 => simp only [Option.map_some, cnC, Option.some.injEq, Chunk.box.injEq] at h; exact ⟨_, rfl, h.symm⟩
  | _ => simp [cnC] at h
theorem refsL_mem {d : Nat} : ∀ {l : List AV}, d ∈ refsL l ↔ ∃ a, a ∈ l ∧ d ∈ refsA a
 | [] => by simp [refsL]
 | a :: l => by simp [refsL, refsL_mem (l := l)]
theorem cn_keep {B : Nat} {a : AV} {v : Value} (r : RelA I η H a v) (hd : ∀ d ∈ refsA a, d < B) : RelA I η (cnHs B H 0 H) a v := by
 induction r with
 | dead v => exact .dead v
 | i x v h => exact .i x v h
 | agg cells cs hl _ ih => exact .agg cells cs hl fun k a ha => ih k a ha fun d h => hd d (refsL_mem.2 ⟨a, List.mem_of_getElem? ha, h⟩)
 | clo fn a b fs cs hl hm _ _ ih1 ih2 =>
  exact .clo fn a b fs cs hl hm (fun k x hx => ih1 k x hx fun d h => hd d (List.mem_append.2 (.inl (refsL_mem.2 ⟨x, List.mem_of_getElem? hx, h⟩))))
   (fun k x hx => ih2 k x hx fun d h => hd d (List.mem_append.2 (.inr (refsL_mem.2 ⟨x, List.mem_of_getElem? hx, h⟩))))
 | tup vs xs hl _ ih => exact .tup vs xs hl fun k a ha => ih k a ha fun d h => hd d (refsL_mem.2 ⟨a, List.mem_of_getElem? ha, h⟩)
 | ref c g off len v hc hs hf hp hg =>
  have hcB : c < B := hd c (by simp [refsA])
  refine .ref _ _ _ _ _ (by rw [cnHs_len]; exact hc) (fun sz rows ex h => ?_) (fun sz rows ex h => hf _ _ _ (cn_fz h)) hp (fun sz g' rows ex h => ?_)
  ·obtain ⟨g0, ex0, h1, ⟨_, rfl, rfl⟩ | ⟨h2, _⟩⟩ := cn_sl h
   ·exact hs _ _ _ h1
   ·omega
  ·obtain ⟨g0, ex0, h1, ⟨_, rfl, rfl⟩ | ⟨h2, _⟩⟩ := cn_sl h
   ·exact hg _ _ _ _ h1
   ·omega
 | mref c v hc hm ht hu hp => exact cn_mref (.mref c v hc hm ht hu hp)
 | ptr c g r k v hc hb hs hf hi hp hg =>
  have hcB : c < B := hd c (by simp [refsA])
  refine .ptr _ _ _ _ _ (by rw [cnHs_len]; exact hc) (fun cells h => ?_) (fun sz rows ex h => ?_) (fun sz rows ex row h => hf _ _ _ _ (cn_fz h)) (fun s p h => hi _ _ (cn_iter h)) hp (fun sz g' rows ex h => ?_)
  ·obtain ⟨c0, h1, _⟩ := cn_box h; exact hb _ h1
  ·obtain ⟨g0, ex0, h1, ⟨_, rfl, rfl⟩ | ⟨h2, _⟩⟩ := cn_sl h
   ·exact hs _ _ _ h1
   ·omega
  ·obtain ⟨g0, ex0, h1, ⟨_, rfl, rfl⟩ | ⟨h2, _⟩⟩ := cn_sl h
   ·exact hg _ _ _ _ h1
   ·omega
theorem cn_rel {B : Nat} {a : AV} {v : Value} (r : RelA I η H a v) : RelA I η (cnHs B H 0 H) (cnA B H a) v := by
 induction r with
 | dead v => simp only [cnA]; exact .dead v
 | i x v h => simp only [cnA]; exact .i x v h
 | agg cells cs hl _ ih =>
  simp only [cnA, cnL_map]
  refine .agg _ _ (by simpa using hl) fun k a ha => ?_
  simp only [List.getElem?_map, Option.map_eq_some_iff] at ha
  obtain ⟨b, hb, rfl⟩ := ha
  exact ih k b hb
 | clo fn a b fs cs hl hm _ _ ih1 ih2 =>
  simp only [cnA, cnL_map]
  refine .clo _ _ _ _ _ (by simpa using hl) (by simpa using hm) (fun k a ha => ?_) (fun k a ha => ?_)
  ·simp only [List.getElem?_map, Option.map_eq_some_iff] at ha
   obtain ⟨b, hb, rfl⟩ := ha
   exact ih1 k b hb
  ·simp only [List.getElem?_map, Option.map_eq_some_iff] at ha
   obtain ⟨b, hb, rfl⟩ := ha
   exact ih2 k b hb
 | tup vs xs hl _ ih =>
  simp only [cnA, cnL_map]
  refine .tup _ _ (by simpa using hl) fun k a ha => ?_
  simp only [List.getElem?_map, Option.map_eq_some_iff] at ha
  obtain ⟨b, hb, rfl⟩ := ha
  exact ih k b hb
 | ref c g off len v hc hs hf hp hg =>
  simp only [cnA]
  split
  ·exact cn_keep (.ref c g off len v hc hs hf hp hg) (by simpa [refsA])
  ·rename_i hcB
   unfold cnRef
   split
   ·rename_i sz g' rows ex hH
    split
    ·rename_i e; subst e
     refine .ref _ _ _ _ _ (by rw [cnHs_len]; exact hc) (fun sz2 rows2 ex2 h => ?_) (fun sz2 rows2 ex2 h => ?_) hp (fun _ _ _ _ _ => Nat.zero_le _)
     ·obtain ⟨g0, ex0, h1, _⟩ := cn_sl h
      rw [hH] at h1; cases h1
      exact hs _ _ _ hH
     ·have := cn_fz h; rw [hH] at this; cases this
    ·exact .dead v
   ·rename_i sz g' rows ex hH
    split
    ·rename_i e; subst e
     exact .i _ _ (hf _ _ _ hH).2
    ·exact .dead v
   ·exact .dead v
 | mref c v hc hm ht hu hp => simp only [cnA]; exact cn_mref (.mref c v hc hm ht hu hp)
 | ptr c g r k v hc hb hs hf hi hp hg =>
  simp only [cnA]
  split
  ·exact cn_keep (.ptr c g r k v hc hb hs hf hi hp hg) (by simpa [refsA])
  ·rename_i hcB
   unfold cnPtr
   split
   ·rename_i sz g' rows ex hH
    split
    ·rename_i e; subst e
     refine .ptr _ _ _ _ _ (by rw [cnHs_len]; exact hc) (fun cells h => ?_) (fun sz2 rows2 ex2 h => ?_) (fun sz2 rows2 ex2 row h => ?_) (fun s p h => ?_) hp (fun _ _ _ _ _ => Nat.zero_le _)
     ·obtain ⟨c0, h1, _⟩ := cn_box h; rw [hH] at h1; cases h1
     ·obtain ⟨g0, ex0, h1, _⟩ := cn_sl h
      rw [hH] at h1; cases h1
      exact hs _ _ _ hH
     ·have := cn_fz h; rw [hH] at this; cases this
     ·have := cn_iter h; rw [hH] at this; cases this
    ·exact .dead v
   ·rename_i x hne hH
    refine .ptr _ _ _ _ _ (by rw [cnHs_len]; exact hc) (fun cells h => ?_) (fun sz2 rows2 ex2 h => ?_) (fun sz2 rows2 ex2 row h => hf _ _ _ _ (cn_fz h)) (fun s p h => hi _ _ (cn_iter h)) hp (fun sz2 g2 rows2 ex2 h => ?_)
    ·obtain ⟨c0, h1, _⟩ := cn_box h; exact hb _ h1
    ·obtain ⟨g0, ex0, h1, _⟩ := cn_sl h
     rw [hH] at h1; cases h1; exact (hne _ _ _ _ rfl).elim
    ·obtain ⟨g0, ex0, h1, _⟩ := cn_sl h
     rw [hH] at h1; cases h1; exact (hne _ _ _ _ rfl).elim
   ·exact .dead v
theorem cn_conc (B : Nat) (hC : Conc E I η H w) : Conc E I η (cnHs B H 0 H) w := by
 refine ⟨hC.imm, fun c x hx => ?_, hC.inj, fun c b n h => ?_, hC.glob⟩
 ·rw [cn_at] at hx
  simp only [Option.map_eq_some_iff] at hx
  obtain ⟨y, hy, rfl⟩ := hx
  have hk := hC.ch c y hy
  cases y with
  | box cells =>
   obtain ⟨b, cs, elem, fz, h1, h2, h3, h4, h5⟩ := hk
   refine ⟨b, cs, elem, fz, h1, h2, h3, by rw [cnL_map]; simpa using h4, fun k a ha => ?_⟩
   rw [cnL_map] at ha
   simp only [List.getElem?_map, Option.map_eq_some_iff] at ha
   obtain ⟨b, hb, rfl⟩ := ha
   exact cn_rel (h5 k b hb)
  | sl sz g rows ex =>
   simp only [cnC]
   split
   ·exact hk
   ·obtain ⟨h1, h2, h3⟩ := hk
    refine ⟨h1, h2, ?_⟩
    rcases h3 with h3 | ⟨b, cs, elem, fz, h4, h5, h6, h7, h8, h9⟩
    ·exact .inl h3
    ·exact .inr ⟨b, cs, elem, fz, h4, h5, h6, h7, (fun h => by cases h), h9⟩
  | fz => exact hk
  | iter => exact hk
  | map => exact hk
  | buf => exact hk
  | gone => exact hk
  | tb t cells =>
   obtain ⟨b, cs, h1, h2, h4, h5⟩ := hk
   refine ⟨b, cs, h1, h2, by rw [cnL_map]; simpa using h4, fun k a ha => ?_⟩
   rw [cnL_map] at ha
   simp only [List.getElem?_map, Option.map_eq_some_iff] at ha
   obtain ⟨b, hb, rfl⟩ := ha
   exact cn_rel (h5 k b hb)
 ·have := hC.sep c b n h
  exact ⟨this.1, this.2.1, by rw [cnHs_len]; exact this.2.2⟩
theorem get_cnF (B : Nat) (k : Nat) : ∀ fr : Fr, get k (cnF B H fr) = cnA B H (get k fr)
 | [] => by simp [get, cnF, cnA]
 | (j, a) :: fr => by
  simp only [cnF, get]
  split
  ·rfl
  ·exact get_cnF B k fr
theorem AfterB.trans {B : Nat} {H' H'' : Hp} {w' w'' : World} {Q Q' : Imm → Eta → Prop} (h : AfterB E B I η H w H' w' Q) (k : ∀ I' η', Conc E I' η' H' w' → Q I' η' → AfterB E B I' η' H' w' H'' w'' Q') : AfterB E B I η H w H'' w'' Q' := by
 obtain ⟨I', η', h1, h2, h3, h4⟩ := h
 obtain ⟨I'', η'', k1, k2, k3, k4⟩ := k I' η' h1 h4
 exact ⟨I'', η'', k1, h2.trans k2, h3.trans k3, k4⟩
theorem cn_after (B : Nat) (hC : Conc E I η H w) {Q : Imm → Eta → Prop} (hQ : Q I η) : AfterB E B I η H w (cnHs B H 0 H) w Q :=
 ⟨I, η, cn_conc B hC, Trans.refl _ _ _, fun a v hd r => cn_keep r hd, hQ⟩
theorem gcn_ok (B : Nat) {fr : Fr} {tmps : Array Value} (hC : Conc E I η H w) (hf : FrOK I η H fr tmps) :
  AfterB E B I η H w (gcn B fr H).2 w fun I' η' => FrOK I' η' (gcn B fr H).2 (gcn B fr H).1 tmps := by
 unfold gcn
 refine (cn_after B hC (Q := fun I' η' => FrOK I' η' (cnHs B H 0 H) (cnF B H fr) tmps) fun k => by rw [get_cnF]; exact cn_rel (hf k)).trans fun I1 η1 hC1 hf1 => ?_
 obtain ⟨η', C1, F1, O1, M1⟩ := gc_ok B hC1 hf1
 exact ⟨I1, η', C1, ⟨rfl, rfl, rfl, Nat.le_refl _, fun _ _ _ => rfl, fun _ _ h => h, fun _ h => .inl h, fun c b n h => by obtain ⟨c', h'⟩ := O1 c b n h; exact .inr ⟨c', n, h'⟩⟩, M1, F1⟩
theorem matF_ok {tmps : Array Value} : ∀ (l : List (Nat × Nat)) {I : Imm} {η : Eta} {H : Hp} {fr : Fr}, Conc E I η H w → FrOK I η H fr tmps → After E I η H w (matF l fr H).2 w fun I' η' => FrOK I' η' (matF l fr H).2 (matF l fr H).1 tmps
 | [], I, η, H, fr, hC, hf => After.refl hC hf
 | (k, z) :: l, I, η, H, fr, hC, hf => by
  simp only [matF]
  refine (matV_ok hC z (hf k)).trans fun I1 η1 hC1 _ hm hx => ?_
  exact matF_ok l hC1 fun j => by
   simp only [get]
   split
   ·rename_i e; subst e; exact hx
   ·exact hm _ _ (hf j)
theorem matB1_ok (hC : Conc E I η H w) (j z c : Nat) : After E I η H w (matB1 j z c H H[c]?) w fun _ _ => True := by
 unfold matB1
 split
 ·rename_i cells hc
  split
  ·rename_i a ha
   obtain ⟨b, cs, elem, fz, e1, e2, e3, e4, e5⟩ := hC.ch _ _ hc
   have hcl := (List.getElem?_eq_some_iff.1 hc).1
   refine (matV_ok hC z (e5 j a ha)).trans fun I1 η1 hC1 hI hm hx => ?_
   have hc1 : (matV z H a).2[c]? = some (.box cells) := by
    obtain ⟨x, hx⟩ := matV_app z H a
    rw [hx, List.getElem?_append_left hcl]; exact hc
   obtain ⟨b', cs', elem', fz', f1, f2, f3, f4, f5⟩ := hC1.ch _ _ hc1
   have hcs : cs' = cs := by
    have h1 : RelA I1 η1 (matV z H a).2 (.ptr c 0 0 0) (.pointer (some ⟨b, 0, none⟩)) := hm _ _ (.ptr c 0 0 0 _ hcl (fun _ _ => ⟨b, _, e1, rfl⟩) (fun _ _ _ h => by rw [hc] at h; cases h) (fun _ _ _ _ h => by rw [hc] at h; cases h) (fun _ _ h => by rw [hc] at h; cases h) ⟨_, rfl⟩ (fun _ _ _ _ h => by rw [hc] at h; cases h))
    cases h1 with
    | ptr _ _ _ _ _ _ hb =>
     obtain ⟨b2, n2, g1, g2⟩ := hb _ hc1
     rw [f1] at g1; cases g1
     cases g2
     rw [e2] at f2; cases f2; rfl
   subst hcs
   refine wrote hC1 f1 hc1 (fun _ _ => rfl) rfl rfl rfl rfl ?_ (fun hm2 => ?_) (fun _ => trivial)
   ·intro y hy
    rcases set_get hy with ⟨_, rfl⟩ | ⟨e, _⟩
    ·exact .inl ⟨cells, hc1, rfl⟩
    ·exact absurd rfl e
   ·refine ⟨b', cs', elem', fz', f1, f2, f3, by simpa using f4, fun k x hk => ?_⟩
    by_cases hkj : j = k
    ·subst hkj
     have hjl := (List.getElem?_eq_some_iff.1 ha).1
     rw [List.getElem?_set_self hjl] at hk
     cases hk
     exact hm2 _ _ hx
    ·rw [List.getElem?_set_ne hkj] at hk
     exact hm2 _ _ (f5 k x hk)
  ·exact After.refl hC trivial
 ·exact After.refl hC trivial
theorem matB_ok {tmps : Array Value} {fr : Fr} : ∀ (l : List (Nat × Nat × Nat)) {I : Imm} {η : Eta} {H : Hp}, Conc E I η H w → FrOK I η H fr tmps → After E I η H w (matB l fr H) w fun I' η' => FrOK I' η' (matB l fr H) fr tmps
 | [], I, η, H, hC, hf => After.refl hC hf
 | (k, j, z) :: l, I, η, H, hC, hf => by
  have h1 : After E I η H w (matB2 j z H (get k fr)) w fun _ _ => True := by
   unfold matB2; split
   ·exact matB1_ok hC _ _ _
   ·exact After.refl hC trivial
  simp only [matB]
  exact h1.trans fun I1 η1 hC1 _ hm _ => matB_ok l hC1 fun k => hm _ _ (hf k)
theorem frzF_ok {tmps : Array Value} : ∀ (l : List (Nat × Nat)) {I : Imm} {η : Eta} {H : Hp} {fr : Fr}, Conc E I η H w → FrOK I η H fr tmps → After E I η H w (frzF l fr H).2 w fun I' η' => FrOK I' η' (frzF l fr H).2 (frzF l fr H).1 tmps
 | [], I, η, H, fr, hC, hf => After.refl hC hf
 | (k, z) :: l, I, η, H, fr, hC, hf => by
  simp only [frzF]
  cases hz : freeze H (get k fr) with
  | none => simp only [frz1]; exact frzF_ok l hC hf
  | some p =>
   obtain ⟨x, H1⟩ := p
   simp only [frz1]
   refine (freeze_ok hC (hf k) hz).trans fun I1 η1 hC1 _ hm hx => ?_
   exact frzF_ok l hC1 fun j => by
    simp only [get]
    split
    ·rename_i e; subst e; exact .i _ _ (canI_ok hx)
    ·exact hm _ _ (hf j)
theorem hd_ok (B : Nat) {f : FuncId} {id : Nat} {fr : Fr} {tmps : Array Value} (hC : Conc E I η H w) (hf : FrOK I η H fr tmps) :
  AfterB E B I η H w (hdE E B f id fr H).2 w fun I' η' => FrOK I' η' (hdE E B f id fr H).2 (hdE E B f id fr H).1 tmps := by
 unfold hdE
 simp only
 refine (matF_ok (E.mat f id) hC hf).b.trans fun I1 η1 hC1 hf1 => ?_
 refine (matB_ok (E.matb f id) hC1 hf1).b.trans fun I2 η2 hC2 hf2 => ?_
 refine (frzF_ok (E.frz f id) hC2 hf2).b.trans fun I3 η3 hC3 hf3 => ?_
 exact gcn_ok B hC3 (hf3.normed _)
theorem retL_ok {f : FuncId} {B : Nat} (hC : Conc E I η H w) {vs as0 : List AV} {H' : Hp} (h : retL E f B H vs = some (as0, H')) (g : Nat → Value) (r : ∀ (k : Nat) (a : AV), vs[k]? = some a → RelA I η H a (g k)) :
  AfterB E B I η H w H' w fun I' η' => as0.length = vs.length ∧ ∀ (k : Nat) (a : AV), as0[k]? = some a → RelA I' η' H' a (g k) := by
 have fin : ∀ {I1 η1 H1 as1}, Conc E I1 η1 H1 w → (as1.length = vs.length ∧ ∀ (k : Nat) (a : AV), as1[k]? = some a → RelA I1 η1 H1 a (g k)) →
   AfterB E B I1 η1 H1 w (cnHs B H1 0 H1) w fun I' η' => (cnL B H1 as1).length = vs.length ∧ ∀ (k : Nat) (a : AV), (cnL B H1 as1)[k]? = some a → RelA I' η' (cnHs B H1 0 H1) a (g k) := by
  intro I1 η1 H1 as1 hC1 hq
  refine cn_after B hC1 ⟨by rw [cnL_map]; simpa using hq.1, fun k a ha => ?_⟩
  rw [cnL_map] at ha
  simp only [List.getElem?_map, Option.map_eq_some_iff] at ha
  obtain ⟨b, hb, rfl⟩ := ha
  exact cn_rel (hq.2 k b hb)
 unfold retL at h
 split at h
 ·simp only [Option.some.injEq, Prod.mk.injEq] at h
  obtain ⟨rfl, rfl⟩ := h
  exact (matL_ok (E.resk f) vs hC g r).b.trans fun I1 η1 hC1 hq => fin hC1 hq
 ·split at h
  ·rename_i as1 H1 hp
   simp only [Option.some.injEq, Prod.mk.injEq] at h
   obtain ⟨rfl, rfl⟩ := h
   exact (prep_ok hC g hp r).b.trans fun I1 η1 hC1 hq => fin hC1 ⟨by rw [canLs_len]; exact hq.1, canLs_ok _ _ g hq.2⟩
  ·cases h
theorem retE_ok {f : FuncId} {B : Nat} (hC : Conc E I η H w) {r0 r : AV} {v : Value} {H' : Hp} (h : retE E f B H r0 = some (r, H')) (rv : RelA I η H r0 v) : AfterB E B I η H w H' w fun I' η' => RelA I' η' H' r v := by
 have single : ∀ a, ret1 (retL E f B H [a]) = some (r, H') → RelA I η H a v → AfterB E B I η H w H' w fun I' η' => RelA I' η' H' r v := by
  intro a h ra
  unfold ret1 at h
  split at h
  ·rename_i a1 H1 hr
   simp only [Option.some.injEq, Prod.mk.injEq] at h
   obtain ⟨rfl, rfl⟩ := h
   obtain ⟨I1, η1, k1, k2, k3, k4⟩ := retL_ok hC hr (fun _ => v) (fun k b hb => by
    cases k with
    | zero => simp at hb; subst hb; exact ra
    | succ k => simp at hb)
   exact ⟨I1, η1, k1, k2, k3, k4.2 0 _ rfl⟩
  ·cases h
 cases r0 with
 | tup vs =>
  simp only [retE, retN] at h
  split at h
  ·rename_i as0 H1 hr
   simp only [Option.some.injEq, Prod.mk.injEq] at h
   obtain ⟨rfl, rfl⟩ := h
   cases rv with
   | tup _ xs hl hx =>
    obtain ⟨I1, η1, k1, k2, k3, k4⟩ := retL_ok hC hr (fun k => xs.getD k undef) hx
    exact ⟨I1, η1, k1, k2, k3, .tup _ _ (by rw [k4.1]; exact hl) k4.2⟩
  ·cases h
 | dead => exact single _ h rv
 | i => exact single _ h rv
 | agg => exact single _ h rv
 | ref => exact single _ h rv
 | ptr => exact single _ h rv
 | mref => exact single _ h rv
 | clo => exact single _ h rv

def markD (D : Nat) : Deferred := { target := .collected D, args := #[] }
def NM (I : Imm) (η : Eta) (b : Nat) : Prop := I b = none ∧ ∀ c n, η c ≠ some (b, n)
def MarksOK (b0 : Nat) (I : Imm) (η : Eta) (w : World) (ds : List Deferred) : Prop := ∃ Ds : List Nat, ds = Ds.map markD ∧ Ds.Nodup ∧ ∀ D ∈ Ds, b0 ≤ D ∧ w.heap[D]? = some (.deferred (some [])) ∧ NM I η D
theorem heap_lt {w : World} {b : Nat} {o : Obj} (h : w.heap[b]? = some o) : b < w.heap.size := (Array.getElem?_eq_some_iff.1 h).1
theorem nm_trans {I' η' w'} {b : Nat} (h : NM I η b) (hb : b < w.heap.size) (T : Trans I η w I' η' w') : NM I' η' b := by
 refine ⟨?_, fun c n e => ?_⟩
 ·cases hi : I' b with
  | none => rfl
  | some o =>
   rcases T.immNew b (by rw [hi]; simp) with h1 | h1 | ⟨c, n, h1⟩
   ·exact absurd h.1 h1
   ·omega
   ·exact absurd h1 (h.2 c n)
 ·rcases T.own c b n e with h1 | ⟨c', n', h1⟩
  ·omega
  ·exact h.2 _ _ h1
theorem nm_frame {I' η' w'} {b : Nat} {o : Obj} (h : NM I η b) (hb : w.heap[b]? = some o) (T : Trans I η w I' η' w') : w'.heap[b]? = some o := (T.frame b (heap_lt hb) h.2).trans hb
theorem marks_trans {I' η' w'} {b0 : Nat} {ds : List Deferred} (h : MarksOK b0 I η w ds) (T : Trans I η w I' η' w') : MarksOK b0 I' η' w' ds := by
 obtain ⟨Ds, h1, h2, h3⟩ := h
 refine ⟨Ds, h1, h2, fun D hD => ?_⟩
 obtain ⟨k1, k2, k3⟩ := h3 D hD
 exact ⟨k1, nm_frame k3 k2 T, nm_trans k3 (heap_lt k2) T⟩
theorem marks_nil (b0 : Nat) (I : Imm) (η : Eta) (w : World) : MarksOK b0 I η w [] := ⟨[], rfl, List.nodup_nil, fun _ h => by cases h⟩
theorem marks_put {b0 : Nat} {ds : List Deferred} {l : Nat} {r : Loop} (h : MarksOK b0 I η w ds) (hl : w.heap[l]? = some (.loop r)) (o : Obj) : MarksOK b0 I η (w.putObj l o) ds := by
 obtain ⟨Ds, h1, h2, h3⟩ := h
 refine ⟨Ds, h1, h2, fun D hD => ?_⟩
 obtain ⟨k1, k2, k3⟩ := h3 D hD
 exact ⟨k1, (World.putObj_heap_other (by rintro rfl; rw [hl] at k2; cases k2)).trans k2, k3⟩
theorem After.bm {B b0 : Nat} {H' : Hp} {w' : World} {Q : Imm → Eta → Prop} {a a' : Act} (hM : MarksOK b0 I η w a.defers) (hdef : a'.defers = a.defers) (h : After E I η H w H' w' Q) :
  AfterB E B I η H w H' w' fun I' η' => Q I' η' ∧ MarksOK b0 I' η' w' a'.defers := by
 obtain ⟨I', η', h1, h2, h3, h4⟩ := h
 exact ⟨I', η', h1, h2, fun a v _ r => h3 a v r, h4, by rw [hdef]; exact marks_trans hM h2⟩
theorem chunk_put {l c : Nat} {o : Obj} {x : Chunk} (hl : ∀ c n, η c ≠ some (l, n)) (h : ChunkOK I η H w c x) : ChunkOK I η H (w.putObj l o) c x := by
 have key : ∀ b n, η c = some (b, n) → (w.putObj l o).heap[b]? = w.heap[b]? := fun b n e => World.putObj_heap_other (by rintro rfl; exact hl _ _ e)
 cases x with
 | box cells =>
  obtain ⟨b, cs, elem, fz, h1, h2, h3⟩ := h
  exact ⟨b, cs, elem, fz, h1, (key _ _ h1).trans h2, h3⟩
 | sl sz g rows ex =>
  obtain ⟨h1, h2, h3⟩ := h
  refine ⟨h1, h2, ?_⟩
  rcases h3 with h3 | ⟨b, cs, elem, fz, h4, h5, h6⟩
  ·exact .inl h3
  ·exact .inr ⟨b, cs, elem, fz, h4, (key _ _ h4).trans h5, h6⟩
 | fz => exact h
 | iter s p =>
  obtain ⟨b, h1, h2⟩ := h
  exact ⟨b, h1, (key _ _ h1).trans h2⟩
 | map es =>
  obtain ⟨b, arr, cl, h1, h2, h3⟩ := h
  exact ⟨b, arr, cl, h1, (key _ _ h1).trans h2, h3⟩
 | tb t cells =>
  obtain ⟨b, cs, h1, h2, h3⟩ := h
  exact ⟨b, cs, h1, (key _ _ h1).trans h2, h3⟩
 | buf t l =>
  obtain ⟨b, cs, h1, h2, h3⟩ := h
  exact ⟨b, cs, h1, (key _ _ h1).trans h2, h3⟩
 | gone => exact h
theorem conc_put {l : Nat} {o : Obj} (hC : Conc E I η H w) (hl : NM I η l) : Conc E I η H (w.putObj l o) :=
 ⟨fun b o' h => (World.putObj_heap_other (by rintro rfl; rw [hl.1] at h; cases h)).trans (hC.imm b o' h), fun c x h => chunk_put hl.2 (hC.ch c x h), hC.inj,
  fun c b n h => by have := hC.sep c b n h; exact ⟨this.1, by rw [World.putObj_size]; exact this.2.1, this.2.2⟩, hC.glob⟩
theorem trans_put {I0 : Imm} {η0 : Eta} {w0 : World} {l : Nat} {o : Obj} (T : Trans I0 η0 w0 I η w) (hl : w0.heap.size ≤ l) : Trans I0 η0 w0 I η (w.putObj l o) :=
 ⟨T.os, T.tape, T.output, by rw [World.putObj_size]; exact T.size, fun b hb hn => (World.putObj_heap_other (by omega)).trans (T.frame b hb hn), T.imm, T.immNew, T.own⟩
theorem chunk_alloc {c : Nat} {o : Obj} {x : Chunk} (h : ChunkOK I η H w c x) : ChunkOK I η H (w.alloc o) c x := by
 have key : ∀ {b : Nat} {o' : Obj}, w.heap[b]? = some o' → (w.alloc o).heap[b]? = some o' := fun h => (RowKit.Below.heap_alloc w o _ (heap_lt h)).trans h
 cases x with
 | box cells =>
  obtain ⟨b, cs, elem, fz, h1, h2, h3⟩ := h
  exact ⟨b, cs, elem, fz, h1, key h2, h3⟩
 | sl sz g rows ex =>
  obtain ⟨h1, h2, h3⟩ := h
  refine ⟨h1, h2, ?_⟩
  rcases h3 with h3 | ⟨b, cs, elem, fz, h4, h5, h6⟩
  ·exact .inl h3
  ·exact .inr ⟨b, cs, elem, fz, h4, key h5, h6⟩
 | fz => exact h
 | iter s p =>
  obtain ⟨b, h1, h2⟩ := h
  exact ⟨b, h1, key h2⟩
 | map es =>
  obtain ⟨b, arr, cl, h1, h2, h3⟩ := h
  exact ⟨b, arr, cl, h1, key h2, h3⟩
 | tb t cells =>
  obtain ⟨b, cs, h1, h2, h3⟩ := h
  exact ⟨b, cs, h1, key h2, h3⟩
 | buf t l =>
  obtain ⟨b, cs, h1, h2, h3⟩ := h
  exact ⟨b, cs, h1, key h2, h3⟩
 | gone => exact h
theorem conc_alloc0 {o : Obj} (hC : Conc E I η H w) : Conc E I η H (w.alloc o) :=
 ⟨fun b o' h => (RowKit.Below.heap_alloc w o _ (heap_lt (hC.imm b o' h))).trans (hC.imm b o' h), fun c x h => chunk_alloc (hC.ch c x h), hC.inj,
  fun c b n h => by have := hC.sep c b n h; exact ⟨this.1, by rw [World.size_alloc]; omega, this.2.2⟩, hC.glob⟩
theorem trans_alloc0 {I0 : Imm} {η0 : Eta} {w0 : World} {o : Obj} (T : Trans I0 η0 w0 I η w) : Trans I0 η0 w0 I η (w.alloc o) :=
 ⟨T.os, T.tape, T.output, by rw [World.size_alloc]; have := T.size; omega, fun b hb hn => (RowKit.Below.heap_alloc w o b (by have := T.size; omega)).trans (T.frame b hb hn), T.imm, T.immNew, T.own⟩
theorem marks_alloc {b0 : Nat} {ds : List Deferred} {o : Obj} (h : MarksOK b0 I η w ds) : MarksOK b0 I η (w.alloc o) ds := by
 obtain ⟨Ds, h1, h2, h3⟩ := h
 refine ⟨Ds, h1, h2, fun D hD => ?_⟩
 obtain ⟨k1, k2, k3⟩ := h3 D hD
 exact ⟨k1, (RowKit.Below.heap_alloc w o _ (heap_lt k2)).trans k2, k3⟩
theorem nm_new (hC : Conc E I η H w) {b : Nat} (hb : w.heap.size ≤ b) : NM I η b := by
 refine ⟨?_, fun c n e => ?_⟩
 ·cases hi : I b with
  | none => rfl
  | some o => have := heap_lt (hC.imm b o hi); omega
 ·have := (hC.sep c b n e).2.1; omega
theorem leaves_marks {I0 : Imm} {η0 : Eta} {w0 : World} {nn : Nat} {fn : Func} {tmps : Array Value} {R : Ending → World → Prop} : ∀ (Ds : List Nat) (w : World), Conc E I η H w → Trans I0 η0 w0 I η w → Ds.Nodup →
  (∀ D ∈ Ds, w0.heap.size ≤ D ∧ w.heap[D]? = some (.deferred (some [])) ∧ NM I η D) →
  (∀ w', Conc E I η H w' → Trans I0 η0 w0 I η w' → ∃ v, (results fn tmps).run E.P w' = .ok v w' ∧ R (.returned v) w') → LeavesInM (Fe none) nn E.P fn tmps R (Ds.map markD) .returning w
 | [], w, hC, T, _, _, hR => hR w hC T
 | D :: Ds, w, hC, T, hn, hD, hR => by
  obtain ⟨k1, k2, k3⟩ := hD D (.head _)
  have hn' := List.nodup_cons.1 hn
  refine ⟨by simp, .inl ⟨D, _, rfl, run_takeDeferred k2, ?_⟩⟩
  refine leaves_marks Ds _ (conc_put hC k3) (trans_put T k1) hn'.2 (fun D' hD' => ?_) hR
  obtain ⟨j1, j2, j3⟩ := hD D' (.tail _ hD')
  exact ⟨j1, (World.putObj_heap_other (by rintro rfl; exact hn'.1 hD')).trans j2, j3⟩

def ExecOK (E : Env) (n : Nat) : Prop := ∀ (ro : Option Nat) (nn b0 : Nat) B f c fr H ex fr' H', exec E n B f c fr H = some (ex, fr', H') → ∀ I η w a Q, codeOk E f a.tmps.size c = true → (ro = none ∨ rdOk c = true) → E.P.follows .mixedOrders = true → Conc E I η H w → FrOK I η H fr a.tmps →
 MarksOK b0 I η w a.defers → b0 ≤ w.heap.size →
 (∀ a' w', a'.tmps.size = a.tmps.size → AfterB E B I η H w H' w' (fun I' η' => FrOK I' η' H' fr' a'.tmps ∧ MarksOK b0 I' η' w' a'.defers) → Q (exOf ex) a' w') → c.wpIn (Fe ro) nn E.P Q a w
def LoopOK (E : Env) (n : Nat) : Prop := ∀ (ro : Option Nat) (nn b0 : Nat) B f c fr H ex fr' H', exec E n B f (.loop c) fr H = some (ex, fr', H') → ∀ I η w a Q, codeOk E f a.tmps.size c = true → (ro = none ∨ rdOk c = true) → E.P.follows .mixedOrders = true → Conc E I η H w → FrOK I η H fr a.tmps →
 MarksOK b0 I η w a.defers → b0 ≤ w.heap.size →
 (∀ a' w', a'.tmps.size = a.tmps.size → AfterB E B I η H w H' w' (fun I' η' => FrOK I' η' H' fr' a'.tmps ∧ MarksOK b0 I' η' w' a'.defers) → Q (exOf ex) a' w') → Code.roundsIn (Fe ro) nn E.P c Q n a w

def ptrV (b : Nat) : Value := .pointer (some ⟨b, 0, none⟩)
def Seq1 (P : Program) (g : FuncId) (L : List (List Int) → Option (List Int)) : Prop := ∀ (l nn : Nat) (css : List (List Int)) (xs : List Int) (bs : List Nat) (J : Nat → World → Prop) (Jx : World → Prop) (W : World), L css = some xs → bs.length = css.length →
 (∀ j W, J j W → ∀ (k b : Nat) (cs : List Int), bs[k]? = some b → css[k]? = some cs → ∀ (m : Nat) (n : Int), cs[m]? = some n → W.cell? ⟨b, m, none⟩ = some (.int .i64 n)) →
 (∀ j W k, J j W → J j { W with drawn := k }) → (∀ W k, Jx W → Jx { W with drawn := k }) →
 (∀ m j x W, xs[j]? = some x → J j W → YieldAt Fence.wide m P l #[.int .i64 x] W fun e W' => (e = .returned (.bool true) ∧ J (j + 1) W') ∨ (e = .returned (.bool false) ∧ Jx W')) →
 J 0 W → CallsIn Fence.wide nn P g (#[.func (.yield l) #[] #[]] ++ (bs.map ptrV).toArray) W fun e W' => (∃ v, e = .returned v) ∧ (J xs.length W' ∨ Jx W')
def SeqOK (E : Env) : Prop := ∀ g L, E.seq g = some L → enterOk E g = true ∧ Seq1 E.P g L
theorem noSeq (h : ∀ f, E.seq f = none) : SeqOK E := fun f g hg => by rw [h] at hg; cases hg
theorem ptrV_inj {a b : Nat} (h : ptrV a = ptrV b) : a = b := by simpa [ptrV] using h
theorem map_ptrV_inj : ∀ {l m : List Nat}, l.map ptrV = m.map ptrV → l = m
 | [], [], _ => rfl
 | [], _ :: _, h => by simp at h
 | _ :: _, [], h => by simp at h
 | a :: l, b :: m, h => by
  simp only [List.map_cons, List.cons.injEq] at h
  rw [ptrV_inj h.1, map_ptrV_inj h.2]
theorem ints_ok {cs : Array Value} : ∀ (cells : List AV) (ns : List Int) (o : Nat), intsOf cells = some ns → (∀ (k : Nat) (a : AV), cells[k]? = some a → RelA I η H a (cs.getD (o + k) undef)) → ∀ (m : Nat) (n : Int), ns[m]? = some n → cs.getD (o + m) undef = .int .i64 n
 | [], ns, o, h, _, m, n, hn => by
  simp only [intsOf, Option.some.injEq] at h
  subst h; simp at hn
 | a :: r, ns, o, h, hr, m, n, hn => by
  unfold intsOf at h
  split at h
  ·rename_i h0; cases h0
  ·rename_i n0 r0 h0
   cases h0
   simp only [Option.map_eq_some_iff] at h
   obtain ⟨ns', h1, rfl⟩ := h
   cases m with
   | zero =>
    simp only [List.getElem?_cons_zero, Option.some.injEq] at hn
    subst hn
    exact relA_v (hr 0 _ rfl)
   | succ m =>
    have := ints_ok r ns' (o + 1) h1 (fun k a ha => by rw [show o + 1 + k = o + (k + 1) by omega]; exact hr (k + 1) a ha) m n (by simpa using hn)
    rw [show o + (m + 1) = o + 1 + m by omega]; exact this
  ·cases h
theorem caps_ok (hC : Conc E I η H w) : ∀ (caps : List AV) (css : List (List Int)) (vs : List Value), capsI H caps = some css → vs.length = caps.length → (∀ (k : Nat) (a : AV), caps[k]? = some a → RelA I η H a (vs.getD k undef)) →
  ∃ bs : List Nat, vs = bs.map ptrV ∧ bs.length = css.length ∧ ∀ (k b : Nat) (cs : List Int), bs[k]? = some b → css[k]? = some cs → ∀ (m : Nat) (n : Int), cs[m]? = some n → w.cell? ⟨b, m, none⟩ = some (.int .i64 n)
 | [], css, vs, h, hl, _ => by
  simp only [capsI, Option.some.injEq] at h
  subst h
  exact ⟨[], List.length_eq_zero_iff.1 hl, rfl, fun k b cs h => by simp at h⟩
 | a :: r, css, vs, h, hl, hr => by
  unfold capsI at h
  split at h
  ·rename_i h0; cases h0
  ·rename_i c g r0 h0
   cases h0
   split at h
   ·rename_i cells hc
    split at h
    ·rename_i ns css' hi hcr
     cases h
     cases vs with
     | nil => simp at hl
     | cons v vs =>
      obtain ⟨bs, e1, e2, e3⟩ := caps_ok hC r css' vs hcr (by simpa using hl) fun k a ha => by simpa using hr (k + 1) a ha
      have h0 := hr 0 _ rfl
      obtain ⟨b, cs, elem, fz, k1, k2, k3, k4, k5⟩ := hC.ch _ _ hc
      have hv : v = ptrV b := by
       cases h0 with
       | ptr _ _ _ _ _ _ hb =>
        obtain ⟨b', n', q1, q2⟩ := hb _ hc
        rw [k1] at q1; cases q1
        exact q2
      refine ⟨b :: bs, by rw [hv, e1]; rfl, by simp [e2], fun k b' cs' hb hcs m n hn => ?_⟩
      cases k with
      | zero =>
       simp only [List.getElem?_cons_zero, Option.some.injEq] at hb hcs
       subst hb hcs
       have hg := ints_ok (o := 0) cells _ hi (fun k a ha => by rw [Nat.zero_add]; exact k5 k a ha) m n hn
       rw [Nat.zero_add] at hg
       have : cs[m]? = some (.int .i64 n) := by
        rw [Array.getD_eq_getD_getElem?] at hg
        cases hh : cs[m]? with
        | none => rw [hh] at hg; cases hg
        | some x => rw [hh] at hg; simp only [Option.getD_some] at hg; rw [hg]
       simp [World.cell?, k2, this]
      | succ k => exact e3 k b' cs' (by simpa using hb) (by simpa using hcs) m n hn
    ·cases h
   ·cases h
  ·cases h

def codeX : Ex → Option Code
 | .normal => none
 | .ret => some .ret
 | .exit id => some (.exit id)
theorem map_mark_inj : ∀ {l m : List Nat}, l.map markD = m.map markD → l = m
 | [], [], _ => rfl
 | [], _ :: _, h => by simp at h
 | _ :: _, [], h => by simp at h
 | a :: l, b :: m, h => by
  simp only [List.map_cons, List.cons.injEq] at h
  have h1 : a = b := by simpa [markD] using h.1
  rw [h1, map_mark_inj h.2]

theorem round_ok {n : Nat} (hex : ExecOK E n) {m f l : Nat} {asg body : Code} {fr : Fr} {H2 : Hp} {e0 : Ex} {tmps : Array Value} {r0 : Loop} {R : Ending → World → Prop}
  (h : rdE (fun B' c fr H => exec E n B' f c fr H) asg body fr H = some (e0, H2)) (hra : rdOk asg = true) (hrb : rdOk body = true) (hca : codeOk E f tmps.size asg = true) (hcb : codeOk E f tmps.size body = true) (hm : E.P.follows .mixedOrders = true)
  (hC : Conc E I η H w) (hf : FrOK I η H fr tmps) (hl : w.heap[l]? = some (.loop r0)) (hr : r0.state = .ready) (hnl : NM I η l)
  (hR : ∀ I3 η3 w3, Conc E I3 η3 H2 w3 → (∃ I2 η2 w2, Trans I η w I2 η2 w2 ∧ Trans I2 η2 (w2.putObj l (.loop { r0 with state := .busy })) I3 η3 w3) → MonoB H.length I η H I3 η3 H2 → w3.heap[l]? = some (.loop { r0 with state := .busy }) → NM I3 η3 l →
   ∃ v w', (Instr.endRound l (codeX e0)).run E.P w3 = .ok v w' ∧ R (.returned v) w') :
  asg.wpIn (Fe (some l)) m E.P (Exit.then (fun a₁ w₁ => ∃ w₂, (Instr.beginRound l).run E.P w₁ = .ok () w₂ ∧ body.wpIn (Fe (some l)) m E.P (roundPost E.P l R) a₁ w₂) (fun _ _ _ => False)) { tmps := tmps, defers := [] } w := by
 unfold rdE at h
 split at h
 ·rename_i fr1 H1 hasg
  split at h
  ·rename_i e fr2 H2' hbody
   simp only [Option.some.injEq, Prod.mk.injEq] at h
   obtain ⟨rfl, rfl⟩ := h
   refine hex (some l) m 0 H.length f asg fr H .normal fr1 H1 hasg I η w _ _ hca (.inr hra) hm hC hf (marks_nil _ _ _ _) (Nat.zero_le _) fun a1 w2 hs1 hA1 => ?_
   obtain ⟨I2, η2, k1, k2, k3, k4, k5⟩ := hA1
   have hl2 := nm_frame hnl hl k2
   have hn2 := nm_trans hnl (heap_lt hl) k2
   refine ⟨_, run_beginRound hl2 hr, ?_⟩
   refine hex (some l) m 0 H.length f body fr1 H1 e fr2 H2' hbody I2 η2 _ a1 _ (by rw [hs1]; exact hcb) (.inr hrb) hm (conc_put k1 hn2) k4 (marks_put k5 hl2 _) (Nat.zero_le _) fun a3 w3 hs3 hA3 => ?_
   obtain ⟨I3, η3, j1, j2, j3, j4, j5⟩ := hA3
   have hb2 : (w2.putObj l (.loop { r0 with state := .busy })).heap[l]? = some (.loop { r0 with state := .busy }) := World.putObj_heap_same (heap_lt hl2)
   have := hR I3 η3 w3 j1 ⟨I2, η2, w2, k2, j2⟩ (k3.trans j3) (nm_frame hn2 hb2 j2) (nm_trans hn2 (heap_lt hb2) j2)
   cases e <;> exact this
  ·cases h
 ·cases h

theorem rangeF_ok {n : Nat} (hex : ExecOK E n) (hseq : SeqOK E) {nn b0 B f p : Nat} {g : Operand} {asg body : Code} {fr fr' : Fr} {H' : Hp} {ex : Ex} {xs : List Int} {caps : List AV} {css : List (List Int)} {a : Act} {Q : Exit → Act → World → Prop}
  (hs : seqE E H (opd E fr g) = some (xs, caps, css)) (h : rgE (rdE (fun B' c fr H => exec E n B' f c fr H) asg body) p fr caps css xs H = some (ex, fr', H'))
  (hp : p < a.tmps.size) (hra : rdOk asg = true) (hrb : rdOk body = true) (hca : codeOk E f a.tmps.size asg = true) (hcb : codeOk E f a.tmps.size body = true) (hm : E.P.follows .mixedOrders = true) (hC : Conc E I η H w) (hf : FrOK I η H fr a.tmps)
  (hM : MarksOK b0 I η w a.defers) (hb0 : b0 ≤ w.heap.size)
  (hQ : ∀ a' w', a'.tmps.size = a.tmps.size → AfterB E B I η H w H' w' (fun I' η' => FrOK I' η' H' fr' a'.tmps ∧ MarksOK b0 I' η' w' a'.defers) → Q (exOf ex) a' w') : (Code.rangeFunc g #[p] asg body).wpIn (Fe none) nn E.P Q a w := by
 -- the iterator
 unfold seqE at hs
 split at hs
 ·rename_i gf caps0 hop
  split at hs
  ·rename_i L css0 hL hcap
   simp only [Option.map_eq_some_iff, Prod.mk.injEq] at hs
   obtain ⟨xs0, hLx, rfl, rfl, rfl⟩ := hs
   obtain ⟨hen, hS⟩ := hseq gf L hL
   have rg := opd_ok hC hf g
   rw [hop] at rg
   generalize hy : a.eval g = y at rg
   cases rg with
   | clo _ _ _ fs cs hfs hcs _ hcr =>
   have hfs0 : fs = #[] := Array.size_eq_zero_iff.1 (by simpa using hfs)
   subst hfs0
   have hvr : ∀ (k : Nat) (a : AV), caps0[k]? = some a → RelA I η H a (cs.toList.getD k undef) := fun k a ha => by
    have := hcr k a ha
    rw [List.getD_eq_getElem?_getD, Array.getElem?_toList, ← Array.getD_eq_getD_getElem?]; exact this
   obtain ⟨bs, e1, e2, _⟩ := caps_ok hC caps0 css0 cs.toList hcap (by simpa using hcs) hvr
   have hen' : ∃ fn, E.P.funcs[gf]? = some fn ∧ fn.body.isSome = true ∧ (fn.name == "runtime.NumGoroutine") = false := by
    unfold enterOk at hen
    split at hen
    ·rename_i fn hfn
     simp only [Bool.and_eq_true, Bool.not_eq_true'] at hen
     exact ⟨fn, hfn, hen.1, hen.2⟩
    ·cases hen
   obtain ⟨gfn, hgfn, hgb, hgn⟩ := hen'
   have hb' : ¬ gfn.body = none := by cases hbb : gfn.body <;> simp_all
   have hn' : ¬ gfn.name = "runtime.NumGoroutine" := by simpa using hgn
   refine wpIn_rangeFunc ?_
   intro fn hfn
   obtain ⟨rec, hrec⟩ : ∃ rec : LoopState → Option Code → Loop, rec = fun st pe => { state := st, pending := pe, fn, tmps := a.tmps, params := #[p], assign := asg, body, defers := w.heap.size } := ⟨_, rfl⟩
   obtain ⟨W1, hW1⟩ : ∃ W1, (w.alloc (.deferred (some []))).alloc (.loop (rec .ready none)) = W1 := ⟨_, rfl⟩
   have hL1 : W1.heap[w.heap.size + 1]? = some (.loop (rec .ready none)) := by
    rw [← hW1]; have := World.alloc_heap_new (w.alloc (.deferred (some []))) (.loop (rec .ready none)); rwa [World.size_alloc] at this
   have hK1 : W1.heap[w.heap.size]? = some (.deferred (some [])) := by
    rw [← hW1]; exact (RowKit.Below.heap_alloc _ _ _ (by simp)).trans (World.alloc_heap_new w _)
   have hC1 : Conc E I η H W1 := by rw [← hW1]; exact conc_alloc0 (conc_alloc0 hC)
   have hT1 : Trans I η w I η W1 := by rw [← hW1]; exact trans_alloc0 (trans_alloc0 (Trans.refl _ _ _))
   have hM1 : MarksOK b0 I η W1 (markD w.heap.size :: a.defers) := by
    obtain ⟨Ds, m1, m2, m3⟩ := (by rw [← hW1]; exact marks_alloc (marks_alloc hM) : MarksOK b0 I η W1 a.defers)
    refine ⟨w.heap.size :: Ds, by rw [m1]; rfl, List.nodup_cons.2 ⟨fun hmem => ?_, m2⟩, fun D hD => ?_⟩
    ·obtain ⟨Ds', q1, _, q3⟩ := hM
     rw [map_mark_inj (m1.symm.trans q1)] at hmem
     have := heap_lt (q3 _ hmem).2.1
     omega
    ·rcases List.mem_cons.1 hD with rfl | hD
     ·exact ⟨hb0, hK1, nm_new hC (Nat.le_refl _)⟩
     ·exact m3 D hD
   refine ⟨w.heap.size + 1, [markD w.heap.size], W1, { target := .fn (.func gf) cs, args := #[.func (.yield (w.heap.size + 1)) #[] #[]] }, W1, gf,
    #[.func (.yield (w.heap.size + 1)) #[] #[]] ++ cs, W1, ?_, ?_, fun _ _ => trivial, ?_, fun h => (by cases h), ?_⟩
   ·rw [← hW1, hrec]; exact run_enterLoop_outer _ _ _ _ _
   ·simp only [resolve, hy]
    have hev : a.eval (.const (.func (.yield (w.heap.size + 1)) #[] #[])) = .func (.yield (w.heap.size + 1)) #[] #[] := rfl
    simp [Deferred.ofValue, hev]
   ·simp [invoke, callFunc, hgfn, hn', hb']
   ·-- the rounds
    have hnl : NM I η (w.heap.size + 1) := nm_new hC (by omega)
    have hargs : (#[.func (.yield (w.heap.size + 1)) #[] #[]] ++ cs : Array Value) = #[.func (.yield (w.heap.size + 1)) #[] #[]] ++ (bs.map ptrV).toArray := by rw [← e1]
    rw [hargs]
    refine (hS (w.heap.size + 1) (nn - 1) css0 xs0 bs
     (fun j W => ∃ I' η' Hj, Conc E I' η' Hj W ∧ Trans I η w I' η' W ∧ Mono I η H I' η' Hj ∧ capsI Hj caps0 = some css0 ∧ rgE (rdE (fun B' c fr H => exec E n B' f c fr H) asg body) p fr caps0 css0 (xs0.drop j) Hj = some (ex, fr', H') ∧
      MarksOK b0 I' η' W (markD w.heap.size :: a.defers) ∧ W.heap[w.heap.size + 1]? = some (.loop (rec .ready none)) ∧ NM I' η' (w.heap.size + 1))
     (fun W => ∃ I' η' c, codeX ex = some c ∧ fr' = fr ∧ Conc E I' η' H' W ∧ Trans I η w I' η' W ∧ Mono I η H I' η' H' ∧ MarksOK b0 I' η' W (markD w.heap.size :: a.defers) ∧
      W.heap[w.heap.size + 1]? = some (.loop (rec .done (some c))) ∧ NM I' η' (w.heap.size + 1))
     W1 hLx e2 ?_ ?_ ?_ ?_ ⟨I, η, H, hC1, hT1, Mono.refl _ _ _, hcap, by rw [List.drop_zero]; exact h, hM1, hL1, hnl⟩).mono ?_
    ·-- what the iterator reads
     rintro j W ⟨I', η', Hj, c1, c2, c3, c4, _⟩ k b cs' hb hcs'
     obtain ⟨bs', d1, d2, d3⟩ := caps_ok c1 caps0 css0 cs.toList c4 (by simpa using hcs) fun k a ha => c3 _ _ (hvr k a ha)
     have hbb : bs' = bs := map_ptrV_inj (d1.symm.trans e1)
     subst hbb
     exact d3 k b cs' hb hcs'
    ·rintro j W k ⟨I', η', Hj, c1, c2, c3, c4, c5, c6, c7, c8⟩
     exact ⟨I', η', Hj, conc_drawn c1 k, ⟨c2.os, c2.tape, c2.output, c2.size, c2.frame, c2.imm, c2.immNew, c2.own⟩, c3, c4, c5, c6, c7, c8⟩
    ·rintro W k ⟨I', η', c, c0, c00, c1, c2, c3, c6, c7, c8⟩
     exact ⟨I', η', c, c0, c00, conc_drawn c1 k, ⟨c2.os, c2.tape, c2.output, c2.size, c2.frame, c2.imm, c2.immNew, c2.own⟩, c3, c6, c7, c8⟩
    ·-- one round
     rintro m j x W hx ⟨I', η', Hj, c1, c2, c3, c4, c5, c6, c7, c8⟩
     have hjl := (List.getElem?_eq_some_iff.1 hx).1
     rw [List.drop_eq_getElem_cons hjl, (List.getElem?_eq_some_iff.1 hx).2] at c5
     have hyd := run_yield (P := E.P) (args := #[.int .i64 x]) c7 (by rw [hrec]; rfl)
     have hr1 : (rec .ready none).fn = fn ∧ (rec .ready none).tmps = a.tmps ∧ (rec .ready none).params = #[p] ∧ (rec .ready none).assign = asg ∧ (rec .ready none).body = body := by rw [hrec]; exact ⟨rfl, rfl, rfl, rfl, rfl⟩
     obtain ⟨r1, r2, r3, r4, r5⟩ := hr1
     rw [r1, r2, r3, r4, r5] at hyd
     have hzip : ((#[p] : Array Tmp).zip #[Value.int .i64 x]).foldl (fun tmps (t, a) => tmps.setIfInBounds t a) a.tmps = a.tmps.setIfInBounds p (.int .i64 x) := by simp
     rw [hzip] at hyd
     refine ⟨fn, _, asg, body, hyd, roundIn_of_wpIn hfn ?_⟩
     -- what the round does
     simp only [rgE] at c5
     have hfr : FrOK I' η' Hj ((p, .i (.v (.int .i64 x))) :: fr) (a.tmps.setIfInBounds p (.int .i64 x)) := by
      have h1 : FrOK I' η' Hj fr ({ tmps := a.tmps, defers := [] } : Act).tmps := hf.mono c3
      exact h1.put (v := .i (.v (.int .i64 x))) (x := .int .i64 x) (.i _ _ (.v _ rfl)) (some p) (fun k hk => by cases hk; exact hp)
     cases hrd : rdE (fun B' c fr H => exec E n B' f c fr H) asg body ((p, .i (.v (.int .i64 x))) :: fr) Hj with
     | none => rw [hrd] at c5; cases c5
     | some q =>
      obtain ⟨e0, H2⟩ := q
      rw [hrd] at c5
      refine round_ok hex hrd hra hrb (by simpa using hca) (by simpa using hcb) hm c1 hfr c7 (by rw [hrec]) c8 fun I3 η3 w3 g1 g2 g3 g4 g5 => ?_
      obtain ⟨I2, η2, w2, t1, t2⟩ := g2
      have hT : Trans I η w I3 η3 w3 := (trans_put (l := w.heap.size + 1) (c2.trans t1) (by omega)).trans t2
      have hl2 := nm_frame c8 c7 t1
      have hM3 : MarksOK b0 I3 η3 w3 (markD w.heap.size :: a.defers) := marks_trans (marks_put (marks_trans c6 t1) hl2 _) t2
      have hMo : Mono I η H I3 η3 H2 := fun a v r => g3 a v (rel_refs (c3 a v r)) (c3 a v r)
      have hend := run_endRound (P := E.P) (codeX e0) g4
      rw [hrec] at hend
      refine ⟨_, _, hend, ?_⟩
      have hsame : ∀ o, (w3.putObj (w.heap.size + 1) o).heap[w.heap.size + 1]? = some o := fun o => World.putObj_heap_same (heap_lt g4)
      cases e0 with
      | normal =>
       simp only at c5
       split at c5
       ·rename_i hcap2
        refine .inl ⟨rfl, I3, η3, H2, conc_put g1 g5, trans_put hT (by omega), hMo, hcap2, c5, marks_put hM3 g4 _, ?_, g5⟩
        rw [hsame, hrec]; rfl
       ·cases c5
      | ret =>
       simp only [Option.some.injEq, Prod.mk.injEq] at c5
       obtain ⟨rfl, rfl, rfl⟩ := c5
       refine .inr ⟨rfl, I3, η3, .ret, rfl, rfl, conc_put g1 g5, trans_put hT (by omega), hMo, marks_put hM3 g4 _, ?_, g5⟩
       rw [hsame, hrec]; rfl
      | exit id =>
       simp only [Option.some.injEq, Prod.mk.injEq] at c5
       obtain ⟨rfl, rfl, rfl⟩ := c5
       refine .inr ⟨rfl, I3, η3, .exit id, rfl, rfl, conc_put g1 g5, trans_put hT (by omega), hMo, marks_put hM3 g4 _, ?_, g5⟩
       rw [hsame, hrec]; rfl
    ·-- behind the iterator
     rintro e W2 ⟨⟨v, rfl⟩, (⟨I', η', Hj, c1, c2, c3, c4, c5, c6, c7, c8⟩ | ⟨I', η', c, c0, c00, c1, c2, c3, c6, c7, c8⟩)⟩
     ·rw [List.drop_length] at c5
      simp only [rgE, Option.some.injEq, Prod.mk.injEq] at c5
      obtain ⟨rfl, rfl, rfl⟩ := c5
      refine ⟨none, _, by have := run_endLoop (P := E.P) c7 (by rw [hrec]; simp); rw [hrec] at this; exact this, ?_⟩
      refine hQ _ _ rfl ⟨I', η', conc_put c1 c8, trans_put c2 (by omega), fun a v _ r => c3 a v r, hf.mono c3, marks_put c6 c7 _⟩
     ·subst c00
      refine ⟨some c, _, by have := run_endLoop (P := E.P) c7 (by rw [hrec]; simp); rw [hrec] at this; exact this, ?_⟩
      have hq := hQ { a with defers := [markD w.heap.size] ++ a.defers } (W2.putObj (w.heap.size + 1) (.loop { rec .done (some c) with state := .exhausted })) rfl ⟨I', η', conc_put c1 c8, trans_put c2 (by omega), fun a v _ r => c3 a v r, hf.mono c3, marks_put c6 c7 _⟩
      rw [hrec] at hq
      cases ex with
      | normal => cases c0
      | ret => cases c0; exact wpIn_ret hq
      | exit id => cases c0; exact wpIn_exit hq
  ·cases hs
 ·cases hs

theorem loadVar_ok (hC : Conc E I η H w) {p : AV} {y : Value} (h : RelA I η H p y) {t : TypeId} {v : AV} (hl : loadE E H t p = some v) :
  ∃ b x, y = .pointer (some b) ∧ (loadVar t b).run E.P w = .ok x w ∧ RelA I η H v x := by
 obtain ⟨x, h1, h2⟩ := load_ok hC h hl
 have hp : ∃ b, y = .pointer (some b) := by
  unfold loadE at hl
  split at hl
  ·rename_i cells k n hb _ _
   obtain ⟨b, base, rfl, _⟩ := behind_ok hC h hb; exact ⟨_, rfl⟩
  ·rename_i cells k n hb _ _
   obtain ⟨b, base, rfl, _⟩ := behind_ok hC h hb; exact ⟨_, rfl⟩
  ·cases hl
 obtain ⟨b, rfl⟩ := hp
 exact ⟨b, x, rfl, by simpa [Instr.loadAt, Instr.sureAddr] using h1, h2⟩

def resS (tmps : Array Value) : ResultVar → Sem Value
 | .tmp t => pure (tmps.getD t undef)
 | .cell a t => do loadVar t (← asAddr (tmps.getD a undef))
theorem res_ok (hC : Conc E I η H w) {fr : Fr} {tmps : Array Value} (hf : FrOK I η H fr tmps) : ∀ (l : List ResultVar) (as0 : List AV), resEs E fr H l = some as0 →
  ∃ xs : List Value, (l.mapM (resS tmps)).run E.P w = .ok xs w ∧ xs.length = as0.length ∧ ∀ (k : Nat) (a : AV), as0[k]? = some a → RelA I η H a (xs.toArray.getD k undef)
 | [], as0, h => by
  simp only [resEs, Option.some.injEq] at h; subst h
  exact ⟨[], by simp, rfl, fun k a h => by simp at h⟩
 | r :: l, as0, h => by
  simp only [resEs] at h
  split at h
  ·rename_i a0 as0 h1 h2
   simp only [Option.some.injEq] at h; subst h
   obtain ⟨xs, e1, e2, e3⟩ := res_ok hC hf l as0 h2
   have h0 : ∃ x, (resS tmps r).run E.P w = .ok x w ∧ RelA I η H a0 x := by
    cases r with
    | tmp t =>
     simp only [resE1, Option.some.injEq] at h1; subst h1
     exact ⟨_, rfl, hf t⟩
    | cell a t =>
     simp only [resE1] at h1
     obtain ⟨b, x, k1, k2, k3⟩ := loadVar_ok hC (hf a) h1
     refine ⟨x, ?_, k3⟩
     simp only [resS, k1, asAddr, Sem.run_bind, Sem.run_pure, Result.andThen_ok, k2]
   obtain ⟨x, hx, rx⟩ := h0
   refine ⟨x :: xs, ?_, by simp [e2], fun k a h => ?_⟩
   ·rw [List.mapM_cons, Sem.run_bind, hx]
    simp only [Result.andThen_ok, Sem.run_bind, e1, Sem.run_pure]
   ·cases k with
    | zero => simp at h; subst h; simpa using rx
    | succ k => simpa using e3 k a (by simpa using h)
  ·cases h

theorem results_ok (hC : Conc E I η H w) {fr : Fr} {tmps : Array Value} (hf : FrOK I η H fr tmps) {fn : Func} {r : AV} (h : resE E fr H fn.results.toList = some r) :
  ∃ v, (results fn tmps).run E.P w = .ok v w ∧ RelA I η H r v := by
 unfold resE at h
 have key : ∀ as0, resEs E fr H fn.results.toList = some as0 → ∃ xs : List Value, (results fn tmps).run E.P w = .ok (if h : xs.toArray.size = 1 then xs.toArray[0] else .tuple xs.toArray) w ∧ xs.length = as0.length ∧ ∀ (k : Nat) (a : AV), as0[k]? = some a → RelA I η H a (xs.toArray.getD k undef) := by
  intro as0 has
  obtain ⟨xs, e1, e2, e3⟩ := res_ok hC hf _ as0 has
  refine ⟨xs, ?_, e2, e3⟩
  unfold results
  rw [Sem.run_bind, Array.mapM_eq_mapM_toList, map_eq_pure_bind, Sem.run_bind]
  change ((Sem.run E.P (List.mapM (resS tmps) fn.results.toList) w).andThen _).andThen _ = _
  rw [e1]
  rfl
 split at h
 ·rename_i a has
  obtain rfl := Option.some.inj h
  obtain ⟨xs, e1, e2, e3⟩ := key _ has
  refine ⟨_, e1, ?_⟩
  have hx : xs.toArray.size = 1 := by simpa using e2
  rw [dif_pos hx]
  have := e3 0 _ rfl
  simpa [Array.getD_eq_getD_getElem?, hx] using this
 ·rename_i as0 hne has
  cases h
  obtain ⟨xs, e1, e2, e3⟩ := key _ has
  refine ⟨_, e1, ?_⟩
  have hx : ¬ xs.toArray.size = 1 := fun h1 => by
   simp only [List.size_toArray] at h1
   rw [e2] at h1
   obtain ⟨a, rfl⟩ := List.length_eq_one_iff.1 h1
   exact hne a rfl
  rw [dif_neg hx]
  exact .tup _ _ (by simpa using e2) e3
 ·cases h

theorem frameOf_get : ∀ (l : List AV) (j k : Nat), get (j + k) (frameOf j l) = (l[k]?).getD .dead
 | [], j, k => by simp [frameOf, get]
 | a :: l, j, 0 => by simp [frameOf, get]
 | a :: l, j, k + 1 => by
  have := frameOf_get l (j + 1) k
  rw [show j + (k + 1) = j + 1 + k by omega]
  simp only [frameOf, get, show ¬ j + 1 + k = j by omega, if_false]
  rw [this]; simp

theorem callLoc_ok {n : Nat} (hex : ExecOK E n) : CallOK E (callLoc E (exec E n)) := by
 intro f args H r H' h I η w vs hC hA
 unfold callLoc at h
 split at h
 ·rename_i fn hfn
  split at h
  ·rename_i c hc
   split at h
   ·rename_i hok
    obtain ⟨hfo, hlen⟩ := hok
    unfold fnOk at hfo
    rw [hfn] at hfo
    simp only [hc, Bool.and_eq_true] at hfo
    split at h
    ·cases h
    ·rename_i ex fr H1 hne hx
     split at h
     ·rename_i r' hr
      refine (callsIn_wide (n := 0)).1 (callsIn_of_wp_marks hfn hc trivial ?_ rfl)
      have hsz : (vs ++ Array.replicate (fn.ntmps - vs.size) undef).size = fn.ntmps := by
       have := hA.1; simp; omega
      refine hex none 0 w.heap.size H.length f c _ H ex fr H1 hx I η w _ _ (by rw [hsz]; exact hfo.1) (.inl rfl) hfo.2 hC (fun k => ?_) (marks_nil _ _ _ _) (Nat.le_refl _) fun a' w' hs hAf => ?_
      ·have := frameOf_get args 0 k
       simp only [Nat.zero_add] at this
       rw [this]
       cases hk : args[k]? with
       | none => exact .dead _
       | some b =>
        have h1 := hA.2 k b hk
        have hkl := (List.getElem?_eq_some_iff.1 hk).1
        have : (vs ++ Array.replicate (fn.ntmps - vs.size) undef).getD k undef = vs.getD k undef := by
         rw [Array.getD_eq_getD_getElem?, Array.getElem?_append_left (by rw [hA.1]; exact hkl), ← Array.getD_eq_getD_getElem?]
        rw [this]; exact h1
      ·obtain ⟨I2, η2, k1, k2, k3, k4, Ds, m1, m2, m3⟩ := hAf
       have hfin : LeavesInM Fence.wide 0 E.P fn a'.tmps (fun e w' => ∃ x, e = .returned x ∧ After E I η H w H' w' fun I' η' => RelA I' η' H' r x) a'.defers .returning w' := by
        rw [m1]
        refine leaves_marks (w0 := w) (I0 := I) (η0 := η) Ds w' k1 k2 m2 m3 fun w'' C2 T2 => ?_
        obtain ⟨v, hv, rv⟩ := results_ok C2 k4 hr
        obtain ⟨I3, η3, j1, j2, j3, j4⟩ := retE_ok C2 (B := H.length) h rv
        exact ⟨v, hv, v, rfl, I3, η3, j1, T2.trans j2, fun a v r => j3 a v (rel_refs r) (k3 a v (rel_refs r) r), j4⟩
       cases ex with
       | normal => exact hfin
       | ret => exact hfin
       | exit id => exact (hne id rfl).elim
     ·cases h
    ·cases h
   ·cases h
  ·cases h
 ·cases h

theorem exec_ok (hext : ExtOK E) (hseq : SeqOK E) : ∀ n, ExecOK E n ∧ LoopOK E n := by
 intro n
 induction n with
 | zero => exact ⟨fun ro nn b0 B f c fr H ex fr' H' h => by simp [exec] at h, fun ro nn b0 B f c fr H ex fr' H' h => by simp [exec] at h⟩
 | succ n ih =>
  obtain ⟨ihE, ihL⟩ := ih
  have hcl : CallOK E (callIso E (callLoc E (exec E n))) := iso_ok (callLoc_ok ihE) hext
  have loop : LoopOK E (n + 1) := by
   intro ro nn b0 B f c fr H ex fr' H' h I η w a Q hco hro hm hC hf hM hb0 hQ
   rw [roundsIn_succ]
   simp only [exec] at h
   obtain ⟨I1, η1, C1, T1, M1, F1⟩ := hd_ok B (f := f) (id := (firstRegion c).getD 0) hC hf
   split at h
   ·rename_i fr1 H1 h1
    refine ihE ro nn b0 B f c _ _ _ fr1 H1 h1 I1 η1 w a _ hco hro hm C1 F1 (marks_trans hM T1) hb0 fun a' w' hs hA => ?_
    obtain ⟨I2, η2, k1, k2, k3, k4, k5⟩ := hA
    refine ihL ro nn b0 B f c fr1 H1 ex fr' H' h I2 η2 w' a' Q (by rw [hs]; exact hco) hro hm k1 k4 k5 (Nat.le_trans hb0 k2.size) fun a'' w'' hs' hA' => ?_
    obtain ⟨I3, η3, j1, j2, j3, j4⟩ := hA'
    exact hQ a'' w'' (hs'.trans hs) ⟨I3, η3, j1, T1.trans (k2.trans j2), M1.trans (k3.trans j3), j4⟩
   ·rename_i hne
    refine ihE ro nn b0 B f c _ _ ex fr' H' h I1 η1 w a _ hco hro hm C1 F1 (marks_trans hM T1) hb0 fun a' w' hs hA => ?_
    obtain ⟨I2, η2, k1, k2, k3, k4⟩ := hA
    have := hQ a' w' hs ⟨I2, η2, k1, T1.trans k2, M1.trans k3, k4⟩
    cases ex with
    | normal => exact absurd h (hne _ _)
    | exit id => exact this
    | ret => exact this
  refine ⟨?_, loop⟩
  intro ro nn b0 B f c fr H ex fr' H' h I η w a Q hco hro hm hC hf hM hb0 hQ
  cases c with
  | skip =>
   simp only [exec, Option.some.injEq, Prod.mk.injEq] at h
   obtain ⟨rfl, rfl, rfl⟩ := h
   exact wpIn_skip (hQ a w rfl ((After.refl hC hf).bm hM rfl))
  | label l =>
   simp only [exec, Option.some.injEq, Prod.mk.injEq] at h
   obtain ⟨rfl, rfl, rfl⟩ := h
   exact wpIn_label (hQ a w rfl ((After.refl hC hf).bm hM rfl))
  | ret =>
   simp only [exec, Option.some.injEq, Prod.mk.injEq] at h
   obtain ⟨rfl, rfl, rfl⟩ := h
   exact wpIn_ret (hQ a w rfl ((After.refl hC hf).bm hM rfl))
  | exit id =>
   simp only [exec, Option.some.injEq, Prod.mk.injEq] at h
   obtain ⟨rfl, rfl, rfl⟩ := h
   exact wpIn_exit (hQ a w rfl ((After.refl hC hf).bm hM rfl))
  | region id ops draw =>
   simp only [codeOk, Bool.and_eq_true, Bool.or_eq_true, Bool.not_eq_true'] at hco
   have hdst : DstOK a.tmps.size ops.toList := by
    intro o ho d hd
    have := (List.all_eq_true.1 hco.1) o ho
    rw [hd] at this; simpa using this
   cases draw with
   | false =>
    simp only [exec] at h
    split at h
    ·rename_i fr1 H1 h1
     simp only [Option.some.injEq, Prod.mk.injEq] at h
     obtain ⟨rfl, rfl, rfl⟩ := h
     refine wpIn_region_list (evOps_ok hcl ops.toList h1 hC hf hdst fun a' w' hdef hs hA => hQ a' w' hs ((hA.imp fun I' η' _ _ h => h.normed _).bm hM hdef))
    ·cases h
   | true =>
    simp only [exec] at h
    cases hhol : E.hol f id with
    | true =>
     rw [hhol] at h hco
     simp only at h hco
     split at h
     ·rename_i fr1 H1 tr h1
      split at h
      ·rename_i hk
       simp only [Option.some.injEq, Prod.mk.injEq] at h
       obtain ⟨rfl, rfl, rfl⟩ := h
       have hd := hco.2.resolve_left (by simp)
       simp only [Bool.and_eq_true] at hd
       refine draw_okD hcl h1 hk hd.1 hd.2 hm hC hf hdst fun a' w' fr3 he hdef hs hA => hQ a' w' hs ((hA.imp fun I' η' _ _ h => (frOK_eq he h).normed _).bm hM hdef)
      ·cases h
     ·cases h
    | false =>
    rw [hhol] at h hco
    simp only at h hco
    split at h
    ·rename_i fr1 H1 tr h1
     split at h
     ·rename_i hk
      simp only [Option.some.injEq, Prod.mk.injEq] at h
      obtain ⟨rfl, rfl, rfl⟩ := h
      have hd := hco.2.resolve_left (by simp)
      simp only [Bool.and_eq_true] at hd
      refine draw_ok hcl h1 hk hd.1 hd.2 hm hC hf hdst fun a' w' fr3 he hdef hs hA => hQ a' w' hs ((hA.imp fun I' η' _ _ h => (frOK_eq he h).normed _).bm hM hdef)
     ·cases h
    ·cases h
  | seq x y =>
   simp only [codeOk, Bool.and_eq_true] at hco
   simp only [exec] at h
   refine wpIn_seq ?_
   have hro1 : ro = none ∨ rdOk x = true := hro.imp id fun h => by simp only [rdOk, Bool.and_eq_true] at h; exact h.1
   have hro2 : ro = none ∨ rdOk y = true := hro.imp id fun h => by simp only [rdOk, Bool.and_eq_true] at h; exact h.2
   split at h
   ·rename_i fr1 H1 h1
    refine ihE ro nn b0 B f x _ H _ fr1 H1 h1 I η w a _ hco.1 hro1 hm hC hf hM hb0 fun a' w' hs hA => ?_
    obtain ⟨I2, η2, k1, k2, k3, k4, k5⟩ := hA
    refine ihE ro nn b0 B f y fr1 H1 ex fr' H' h I2 η2 w' a' Q (by rw [hs]; exact hco.2) hro2 hm k1 k4 k5 (Nat.le_trans hb0 k2.size) fun a'' w'' hs' hA' => ?_
    obtain ⟨I3, η3, j1, j2, j3, j4⟩ := hA'
    exact hQ a'' w'' (hs'.trans hs) ⟨I3, η3, j1, k2.trans j2, k3.trans j3, j4⟩
   ·rename_i hne
    refine ihE ro nn b0 B f x _ H ex fr' H' h I η w a _ hco.1 hro1 hm hC hf hM hb0 fun a' w' hs hA => ?_
    have := hQ a' w' hs hA
    cases ex with
    | normal => exact absurd h (hne _ _)
    | exit id => exact this
    | ret => exact this
  | cond c x y =>
   simp only [codeOk, Bool.and_eq_true] at hco
   simp only [exec] at h
   split at h
   ·rename_i hb
    exact wpIn_cond_true (opd_bool hC hf hb) (ihE ro nn b0 B f x fr H ex fr' H' h I η w a Q hco.1 (hro.imp id fun h => by simp only [rdOk, Bool.and_eq_true] at h; exact h.1) hm hC hf hM hb0 hQ)
   ·rename_i hb
    exact wpIn_cond_false (opd_bool hC hf hb) (ihE ro nn b0 B f y fr H ex fr' H' h I η w a Q hco.2 (hro.imp id fun h => by simp only [rdOk, Bool.and_eq_true] at h; exact h.2) hm hC hf hM hb0 hQ)
   ·cases h
  | block id c =>
   simp only [codeOk] at hco
   simp only [exec] at h
   refine wpIn_block ?_
   have hro1 : ro = none ∨ rdOk c = true := hro
   split at h
   ·rename_i j fr1 H1 h1
    refine ihE ro nn b0 B f c fr H _ fr1 H1 h1 I η w a _ hco hro1 hm hC hf hM hb0 fun a' w' hs hA => ?_
    show Exit.inBlock id Q (.exit j) a' w'
    unfold Exit.inBlock
    split at h
    ·rename_i hj
     simp only [Option.some.injEq, Prod.mk.injEq] at h
     obtain ⟨rfl, rfl, rfl⟩ := h
     simp only [hj, if_true]
     exact hQ a' w' hs hA
    ·rename_i hj
     simp only [Option.some.injEq, Prod.mk.injEq] at h
     obtain ⟨rfl, rfl, rfl⟩ := h
     simp only [hj, if_false]
     exact hQ a' w' hs hA
   ·rename_i hne
    refine ihE ro nn b0 B f c fr H ex fr' H' h I η w a _ hco hro1 hm hC hf hM hb0 fun a' w' hs hA => ?_
    have := hQ a' w' hs hA
    cases ex with
    | normal => exact this
    | exit id => exact absurd h (hne _ _ _)
    | ret => exact this
  | loop c =>
   simp only [codeOk] at hco
   exact wpIn_loop_rounds _ (loop ro nn b0 B f c fr H ex fr' H' h I η w a Q hco hro hm hC hf hM hb0 hQ)
  | scope c =>
   simp only [codeOk] at hco
   simp only [exec] at h
   rcases hro with rfl | hro
   ·refine wpIn_wide.2 (wp_scope_straight (wpIn_wide.1 (ihE none nn b0 B f c fr H ex fr' H' h I η w a _ hco (.inl rfl) hm hC hf hM hb0 fun a' w' hs hA => ?_)))
    have := hQ a' w' hs hA
    cases ex <;> exact this
   ·cases hro
  | rangeFunc g ps x y =>
   simp only [codeOk, Bool.and_eq_true, List.all_eq_true, decide_eq_true_eq] at hco
   obtain ⟨⟨hps, hra, hrb⟩, hca, hcb⟩ := hco
   rcases hro with rfl | hro
   ·simp only [exec] at h
    split at h
    ·rename_i p xs caps css hpp hs
     have hps' : ps = #[p] := by rw [← Array.toList_inj]; exact hpp
     subst hps'
     exact rangeF_ok ihE hseq hs h (hps p (by simp)) hra hrb hca hcb hm hC hf hM hb0 hQ
    ·cases h
   ·cases hro
  | _ => simp [exec] at h

theorem call_ok (hext : ExtOK E) (hseq : SeqOK E) (n : Nat) : CallOK E (call E n) := callLoc_ok (exec_ok hext hseq n).1
end
end Go.VI

set_option linter.unusedSimpArgs false
set_option linter.unusedVariables false
namespace Go.VI
section
variable {E : Env} {cl cl' : CallF}

def CLe (cl cl' : CallF) : Prop := ∀ f a H r, cl f a H = some r → cl' f a H = some r
def XLe (ex ex' : Exec) : Prop := ∀ B f c fr H r, ex B f c fr H = some r → ex' B f c fr H = some r

theorem exCl_le (h : CLe cl cl') : CLe (exCl E cl) (exCl E cl') := by
 intro f a H r hr
 unfold exCl at hr ⊢
 split
 ·rename_i g hg; rw [hg] at hr; exact hr
 ·rename_i hg; rw [hg] at hr; exact h _ _ _ _ hr
theorem iso_le (h : CLe cl cl') : CLe (callIso E cl) (callIso E cl') := by
 intro f a H r hr
 unfold callIso at hr ⊢
 cases hp : (prepE E f H a) with
 | none => rw [hp] at hr; cases hr
 | some x =>
  obtain ⟨as0, H1⟩ := x
  rw [hp] at hr
  simp only at hr ⊢
  split at hr
  ·cases hr
  ·rename_i r0 L hc
   rw [exCl_le h _ _ _ _ hc]
   exact hr
theorem evOp_le (h : CLe cl cl') {o : Op} {fr : Fr} {H : Hp} {r : AV × Hp} (hr : evOp E cl o fr H = some r) : evOp E cl' o fr H = some r := by
 unfold evOp at hr ⊢
 split at hr
 ·split at hr
  ·split at hr
   ·rename_i g as0 hg he
    rw [if_pos he]
    exact iso_le h _ _ _ _ hr
   ·cases hr
  ·cases hr
 ·exact hr
theorem evOps_le (h : CLe cl cl') {ops : List Oper} : ∀ {l : List Oper} {fr : Fr} {H : Hp} {r : Fr × Hp}, evOps E cl ops l fr H = some r → evOps E cl' ops l fr H = some r
 | [], fr, H, r, hr => hr
 | o :: l, fr, H, r, hr => by
  simp only [evOps] at hr ⊢
  split at hr
  ·split at hr
   ·rename_i v H' hv
    rw [evOp_le h hv]
    exact evOps_le h hr
   ·cases hr
  ·exact evOps_le h hr
  ·cases hr
theorem stp_le (h : CLe cl cl') {ops : List Oper} {o : Oper} {fr : Fr} {H : Hp} {r : Fr × Hp × List Nat} (hr : stp E cl ops o fr H = some r) : stp E cl' ops o fr H = some r := by
 unfold stp at hr ⊢
 split at hr
 ·split at hr
  ·rename_i v H' hv
   rw [evOp_le h hv]
   exact hr
  ·cases hr
 ·exact hr
 ·cases hr
theorem evT_le (h : CLe cl cl') {ops : List Oper} : ∀ {l : List Oper} {fr : Fr} {H : Hp} {r : Fr × Hp × List (List Nat)}, evT E cl ops l fr H = some r → evT E cl' ops l fr H = some r
 | [], fr, H, r, hr => hr
 | o :: l, fr, H, r, hr => by
  simp only [evT] at hr ⊢
  split at hr
  ·rename_i fr1 H1 t hs
   rw [stp_le h hs]
   simp only
   split at hr
   ·rename_i fr2 H2 ts ht
    rw [evT_le h ht]
    exact hr
   ·cases hr
  ·cases hr
theorem evOpD_le (h : CLe cl cl') {c : Nat} {o : Op} {fr : Fr} {H : Hp} {r : AV × Hp} (hr : evOpD E cl c o fr H = some r) : evOpD E cl' c o fr H = some r := by
 unfold evOpD at hr ⊢
 cases hf : isFresh o with
 | true => rw [hf] at hr; exact hr
 | false => rw [hf] at hr; exact evOp_le h hr
theorem evD_le (h : CLe cl cl') {ops : List Oper} : ∀ {l : List Oper} {c : Nat} {fr : Fr} {H : Hp} {r : Fr × Hp × List (List Nat)}, evD E cl ops c l fr H = some r → evD E cl' ops c l fr H = some r
 | [], c, fr, H, r, hr => hr
 | o :: l, c, fr, H, r, hr => by
  simp only [evD] at hr ⊢
  split at hr
  ·split at hr
   ·rename_i v H' hv
    rw [evOpD_le h hv]
    simp only
    split at hr
    ·rename_i fr2 H2 ts ht
     rw [evD_le h ht]
     exact hr
    ·cases hr
   ·cases hr
  ·split at hr
   ·rename_i fr2 H2 ts ht
    rw [evD_le h ht]
    exact hr
   ·cases hr
  ·cases hr
theorem loc_le {ex ex' : Exec} (h : XLe ex ex') : CLe (callLoc E ex) (callLoc E ex') := by
 intro f a H r hr
 unfold callLoc at hr ⊢
 split at hr
 ·rename_i fn hfn
  split at hr
  ·rename_i c hc
   split at hr
   ·rename_i hok
    simp only [hok, if_true]
    rw [if_pos ⟨trivial, trivial⟩]
    cases hx : ex H.length f c (frameOf 0 a) H with
    | none => rw [hx] at hr; cases hr
    | some x => rw [h _ _ _ _ _ _ hx, ← hx]; exact hr
   ·cases hr
  ·cases hr
 ·cases hr
theorem rd_le {ex ex' : Nat → Code → Fr → Hp → Option (Ex × Fr × Hp)} (h : ∀ B c fr H r, ex B c fr H = some r → ex' B c fr H = some r) {a b : Code} {fr : Fr} {H : Hp} {q : Ex × Hp} (hr : rdE ex a b fr H = some q) : rdE ex' a b fr H = some q := by
 unfold rdE at hr ⊢
 split at hr
 ·rename_i fr1 H1 h1
  rw [h _ _ _ _ _ h1]
  simp only
  split at hr
  ·rename_i e fr2 H2 h2
   rw [h _ _ _ _ _ h2]; exact hr
  ·cases hr
 ·cases hr
theorem rg_le {rd rd' : Fr → Hp → Option (Ex × Hp)} (h : ∀ fr H q, rd fr H = some q → rd' fr H = some q) {p : Nat} {fr : Fr} {caps : List AV} {css : List (List Int)} : ∀ (xs : List Int) {H : Hp} {r : Ex × Fr × Hp}, rgE rd p fr caps css xs H = some r → rgE rd' p fr caps css xs H = some r
 | [], H, r, hr => hr
 | x :: xs, H, r, hr => by
  simp only [rgE] at hr ⊢
  cases hx : rd ((p, .i (.v (.int .i64 x))) :: fr) H with
  | none => rw [hx] at hr; cases hr
  | some q =>
   rw [hx] at hr
   rw [h _ _ _ hx]
   obtain ⟨e, H1⟩ := q
   cases e with
   | normal =>
    simp only at hr ⊢
    split at hr
    ·rename_i hc
     rw [if_pos hc]
     exact rg_le h xs hr
    ·cases hr
   | exit id => exact hr
   | ret => exact hr
theorem exec_rangeF (n : Nat) (B f : Nat) (g : Operand) (ps : Array Tmp) (a b : Code) (fr : Fr) (H : Hp) : exec E (n + 1) B f (.rangeFunc g ps a b) fr H = match ps.toList, seqE E H (opd E fr g) with
   | [p], some (xs, caps, css) => rgE (rdE (fun B' c fr H => exec E n B' f c fr H) a b) p fr caps css xs H
   | _, _ => none := rfl
theorem exec_le : ∀ n, XLe (exec E n) (exec E (n + 1)) := by
 intro n
 induction n with
 | zero => intro B f c fr H r h; simp [exec] at h
 | succ n ih =>
  intro B f c fr H r h
  have hcl : CLe (callLoc E (exec E n)) (callLoc E (exec E (n + 1))) := loc_le ih
  cases c with
  | region id ops draw =>
   cases draw with
   | false =>
    rw [exec] at h ⊢
    split at h
    ·rename_i fr' H' hv
     rw [evOps_le hcl hv]; exact h
    ·cases h
   | true =>
    rw [exec] at h ⊢
    cases hhol : E.hol f id with
    | true =>
     rw [hhol] at h
     simp only at h ⊢
     split at h
     ·rename_i fr' H' tr hv
      rw [evD_le hcl hv]; exact h
     ·cases h
    | false =>
     rw [hhol] at h
     simp only at h ⊢
     split at h
     ·rename_i fr' H' tr hv
      rw [evT_le hcl hv]; exact h
     ·cases h
  | seq a b =>
   rw [exec] at h ⊢
   cases hx : exec E n B f a fr H with
   | none => rw [hx] at h; cases h
   | some x =>
    rw [hx] at h
    rw [ih _ _ _ _ _ _ hx]
    obtain ⟨ex, fr', H'⟩ := x
    cases ex with
    | normal => exact ih _ _ _ _ _ _ h
    | exit id => exact h
    | ret => exact h
  | cond c a b =>
   rw [exec] at h ⊢
   split at h
   ·exact ih _ _ _ _ _ _ h
   ·exact ih _ _ _ _ _ _ h
   ·cases h
  | block id c =>
   rw [exec] at h ⊢
   cases hx : exec E n B f c fr H with
   | none => rw [hx] at h; cases h
   | some x =>
    rw [hx] at h
    rw [ih _ _ _ _ _ _ hx]
    exact h
  | loop c =>
   rw [exec] at h ⊢
   cases hx : exec E n B f c (hdE E B f ((firstRegion c).getD 0) fr H).1 (hdE E B f ((firstRegion c).getD 0) fr H).2 with
   | none => rw [hx] at h; cases h
   | some x =>
    rw [hx] at h
    rw [ih _ _ _ _ _ _ hx]
    obtain ⟨ex, fr', H'⟩ := x
    cases ex with
    | normal => exact ih _ _ _ _ _ _ h
    | exit id => exact h
    | ret => exact h
  | scope c => rw [exec] at h ⊢; exact ih _ _ _ _ _ _ h
  | rangeFunc g ps a b =>
   rw [exec_rangeF] at h ⊢
   split at h
   ·rename_i p xs caps css hp hs
    exact rg_le (fun fr H q hq => rd_le (fun B c fr H r hr => ih _ _ _ _ _ _ hr) hq) xs h
   ·cases h
  | _ => exact h
theorem exec_mono {n m : Nat} (h : n ≤ m) : XLe (exec E n) (exec E m) := by
 induction h with
 | refl => exact fun _ _ _ _ _ _ h => h
 | step _ ih => exact fun B f c fr H r h => exec_le _ _ _ _ _ _ _ (ih B f c fr H r h)

open Classical in
noncomputable def execT (E : Env) : Exec := fun B f c fr H => if h : ∃ n r, exec E n B f c fr H = some r then some (Classical.choose (Classical.choose_spec h)) else none
theorem execT_iff {B : Nat} {f : FuncId} {c : Code} {fr : Fr} {H : Hp} {r : Ex × Fr × Hp} : execT E B f c fr H = some r ↔ ∃ n, exec E n B f c fr H = some r := by
 unfold execT
 split
 ·rename_i h
  have hs := Classical.choose_spec (Classical.choose_spec h)
  constructor
  ·intro e
   exact ⟨_, by rw [hs]; exact e⟩
  ·rintro ⟨n, hn⟩
   have h1 := exec_mono (Nat.le_max_left (Classical.choose h) n) _ _ _ _ _ _ hs
   have h2 := exec_mono (Nat.le_max_right (Classical.choose h) n) _ _ _ _ _ _ hn
   rw [h1] at h2
   exact h2
 ·rename_i h
  constructor
  ·intro e; cases e
  ·rintro ⟨n, hn⟩; exact absurd ⟨n, r, hn⟩ h
noncomputable def callT (E : Env) : CallF := callLoc E (execT E)

theorem cle_T (n : Nat) : CLe (callLoc E (exec E n)) (callT E) := loc_le fun B f c fr H r h => execT_iff.2 ⟨n, h⟩
theorem cle_nm {n m : Nat} (h : n ≤ m) : CLe (callLoc E (exec E n)) (callLoc E (exec E m)) := loc_le (exec_mono h)
theorem callT_lim {f : FuncId} {a : List AV} {H : Hp} {r : AV × Hp} (hr : callT E f a H = some r) : ∃ n, callLoc E (exec E n) f a H = some r := by
 unfold callT callLoc at hr
 unfold callLoc
 split at hr
 ·rename_i fn hfn
  split at hr
  ·rename_i c hc
   split at hr
   ·rename_i hok
    cases hx : execT E H.length f c (frameOf 0 a) H with
    | none => rw [hx] at hr; cases hr
    | some x =>
     obtain ⟨n, hn⟩ := execT_iff.1 hx
     refine ⟨n, ?_⟩
     rw [if_pos hok, hn, ← hx]; exact hr
   ·cases hr
  ·cases hr
 ·cases hr
theorem exCl_lim {f : FuncId} {a : List AV} {H : Hp} {r : AV × Hp} (hr : exCl E (callT E) f a H = some r) : ∃ n, exCl E (callLoc E (exec E n)) f a H = some r := by
 unfold exCl at hr ⊢
 cases hg : E.ext f with
 | some g => rw [hg] at hr; exact ⟨0, hr⟩
 | none => rw [hg] at hr; exact callT_lim hr
theorem iso_lim {f : FuncId} {a : List AV} {H : Hp} {r : AV × Hp} (hr : callIso E (callT E) f a H = some r) : ∃ n, callIso E (callLoc E (exec E n)) f a H = some r := by
 unfold callIso at hr
 cases hp : (prepE E f H a) with
 | none => rw [hp] at hr; cases hr
 | some x =>
  obtain ⟨as0, H1⟩ := x
  rw [hp] at hr
  simp only at hr
  split at hr
  ·cases hr
  ·rename_i r0 L hc
   obtain ⟨n, hn⟩ := exCl_lim hc
   refine ⟨n, ?_⟩
   unfold callIso
   rw [hp]
   simp only
   rw [hn]; exact hr
theorem evOp_lim {o : Op} {fr : Fr} {H : Hp} {r : AV × Hp} (hr : evOp E (callT E) o fr H = some r) : ∃ n, evOp E (callLoc E (exec E n)) o fr H = some r := by
 unfold evOp at hr
 split at hr
 ·rename_i f args tys
  split at hr
  ·rename_i g as0 hg
   split at hr
   ·rename_i he
    obtain ⟨n, hn⟩ := iso_lim hr
    refine ⟨n, ?_⟩
    simp only [evOp, hg, he, if_true, hn]
   ·cases hr
  ·cases hr
 ·rename_i hno
  refine ⟨0, ?_⟩
  unfold evOp
  split
  ·exact absurd rfl (hno _ _ _)
  ·exact hr
theorem evOps_lim {ops : List Oper} : ∀ {l : List Oper} {fr : Fr} {H : Hp} {r : Fr × Hp}, evOps E (callT E) ops l fr H = some r → ∃ n, evOps E (callLoc E (exec E n)) ops l fr H = some r
 | [], fr, H, r, hr => ⟨0, hr⟩
 | o :: l, fr, H, r, hr => by
  simp only [evOps] at hr ⊢
  cases hg : guardE ops fr o with
  | none => rw [hg] at hr; cases hr
  | some b =>
   rw [hg] at hr
   cases b with
   | false => exact evOps_lim hr
   | true =>
    simp only at hr ⊢
    split at hr
    ·rename_i v H' hv
     obtain ⟨n, hn⟩ := evOp_lim hv
     obtain ⟨m, hm⟩ := evOps_lim hr
     refine ⟨max n m, ?_⟩
     rw [evOp_le (cle_nm (Nat.le_max_left n m)) hn]
     exact evOps_le (cle_nm (Nat.le_max_right n m)) hm
    ·cases hr
theorem stp_lim {ops : List Oper} {o : Oper} {fr : Fr} {H : Hp} {r : Fr × Hp × List Nat} (hr : stp E (callT E) ops o fr H = some r) : ∃ n, stp E (callLoc E (exec E n)) ops o fr H = some r := by
 unfold stp at hr
 cases hg : guardE ops fr o with
 | none => rw [hg] at hr; cases hr
 | some b =>
  rw [hg] at hr
  cases b with
  | false => exact ⟨0, by unfold stp; rw [hg]; exact hr⟩
  | true =>
   simp only at hr
   split at hr
   ·rename_i v H' hv
    obtain ⟨n, hn⟩ := evOp_lim hv
    refine ⟨n, ?_⟩
    unfold stp
    rw [hg, hn]; exact hr
   ·cases hr
theorem evT_lim {ops : List Oper} : ∀ {l : List Oper} {fr : Fr} {H : Hp} {r : Fr × Hp × List (List Nat)}, evT E (callT E) ops l fr H = some r → ∃ n, evT E (callLoc E (exec E n)) ops l fr H = some r
 | [], fr, H, r, hr => ⟨0, hr⟩
 | o :: l, fr, H, r, hr => by
  simp only [evT] at hr ⊢
  split at hr
  ·rename_i fr1 H1 t hs
   split at hr
   ·rename_i fr2 H2 ts ht
    obtain ⟨n, hn⟩ := stp_lim hs
    obtain ⟨m, hm⟩ := evT_lim ht
    refine ⟨max n m, ?_⟩
    rw [stp_le (cle_nm (Nat.le_max_left n m)) hn]
    simp only
    rw [evT_le (cle_nm (Nat.le_max_right n m)) hm]
    exact hr
   ·cases hr
  ·cases hr

theorem evD_lim {ops : List Oper} : ∀ {l : List Oper} {c : Nat} {fr : Fr} {H : Hp} {r : Fr × Hp × List (List Nat)}, evD E (callT E) ops c l fr H = some r → ∃ n, evD E (callLoc E (exec E n)) ops c l fr H = some r
 | [], c, fr, H, r, hr => ⟨0, hr⟩
 | o :: l, c, fr, H, r, hr => by
  simp only [evD] at hr ⊢
  cases hg : guardE ops fr o with
  | none => rw [hg] at hr; cases hr
  | some b =>
   rw [hg] at hr
   cases b with
   | false =>
    simp only at hr ⊢
    split at hr
    ·rename_i fr2 H2 ts ht
     obtain ⟨m, hm⟩ := evD_lim ht
     refine ⟨m, ?_⟩
     rw [hm]; exact hr
    ·cases hr
   | true =>
    simp only at hr ⊢
    split at hr
    ·rename_i v H' hv
     split at hr
     ·rename_i fr2 H2 ts ht
      have hn : ∃ n, evOpD E (callLoc E (exec E n)) c o.op fr H = some (v, H') := by
       unfold evOpD at hv ⊢
       cases hf : isFresh o.op with
       | true => rw [hf] at hv; exact ⟨0, hv⟩
       | false => rw [hf] at hv; exact evOp_lim hv
      obtain ⟨n, hn⟩ := hn
      obtain ⟨m, hm⟩ := evD_lim ht
      refine ⟨max n m, ?_⟩
      rw [evOpD_le (cle_nm (Nat.le_max_left n m)) hn]
      simp only
      rw [evD_le (cle_nm (Nat.le_max_right n m)) hm]
      exact hr
     ·cases hr
    ·cases hr
  
variable {B : Nat} {f : FuncId} {fr : Fr} {H : Hp} {id : Nat}
theorem execT_skip : execT E B f .skip fr H = some (.normal, fr, H) := execT_iff.2 ⟨1, rfl⟩
theorem execT_label (l : Nat) : execT E B f (.label l) fr H = some (.normal, fr, H) := execT_iff.2 ⟨1, rfl⟩
theorem execT_ret : execT E B f .ret fr H = some (.ret, fr, H) := execT_iff.2 ⟨1, rfl⟩
theorem execT_exit (id : Nat) : execT E B f (.exit id) fr H = some (.exit id, fr, H) := execT_iff.2 ⟨1, rfl⟩
def regK (E : Env) (f : FuncId) (id : Nat) (r : Option (Fr × Hp)) : Option (Ex × Fr × Hp) := match r with
 | some (fr', H') => some (.normal, norm (E.keep f id) fr', H')
 | none => none
def regTK (E : Env) (f : FuncId) (id : Nat) (r : Option (Fr × Hp × List (List Nat))) : Option (Ex × Fr × Hp) := match r with
 | some (fr', H', tr) => if (E.flo f id).all (floatOk tr) = true then some (.normal, norm (E.keep f id) fr', H') else none
 | none => none
theorem execT_region (id : Nat) (ops : Array Oper) : execT E B f (.region id ops false) fr H = regK E f id (evOps E (callT E) ops.toList ops.toList fr H) := by
 refine Option.ext fun r => ?_
 rw [execT_iff]
 constructor
 ·rintro ⟨n, h⟩
  cases n with
  | zero => simp [exec] at h
  | succ n =>
   simp only [exec] at h
   split at h
   ·rename_i fr' H' hv
    rw [evOps_le (cle_T n) hv]; exact h
   ·cases h
 ·intro h
  cases hv : evOps E (callT E) ops.toList ops.toList fr H with
  | none => rw [hv] at h; cases h
  | some x =>
   obtain ⟨n, hn⟩ := evOps_lim hv
   refine ⟨n + 1, ?_⟩
   rw [hv] at h
   simp only [exec]
   rw [hn]; exact h
theorem execT_draw (hh : E.hol f id = false) (ops : Array Oper) : execT E B f (.region id ops true) fr H = regTK E f id (evT E (callT E) ops.toList ops.toList fr H) := by
 refine Option.ext fun r => ?_
 rw [execT_iff]
 constructor
 ·rintro ⟨n, h⟩
  cases n with
  | zero => simp [exec] at h
  | succ n =>
   simp only [exec, hh] at h
   split at h
   ·rename_i fr' H' tr hv
    rw [evT_le (cle_T n) hv]; exact h
   ·cases h
 ·intro h
  cases hv : evT E (callT E) ops.toList ops.toList fr H with
  | none => rw [hv] at h; cases h
  | some x =>
   obtain ⟨n, hn⟩ := evT_lim hv
   refine ⟨n + 1, ?_⟩
   rw [hv] at h
   simp only [exec, hh]
   rw [hn]; exact h
theorem execT_drawD (hh : E.hol f id = true) (ops : Array Oper) : execT E B f (.region id ops true) fr H = regTK E f id (evD E (callT E) ops.toList H.length ops.toList fr (H ++ List.replicate (nFresh ops.toList) hole)) := by
 refine Option.ext fun r => ?_
 rw [execT_iff]
 constructor
 ·rintro ⟨n, h⟩
  cases n with
  | zero => simp [exec] at h
  | succ n =>
   simp only [exec, hh] at h
   split at h
   ·rename_i fr' H' tr hv
    rw [evD_le (cle_T n) hv]; exact h
   ·cases h
 ·intro h
  cases hv : evD E (callT E) ops.toList H.length ops.toList fr (H ++ List.replicate (nFresh ops.toList) hole) with
  | none => rw [hv] at h; cases h
  | some x =>
   obtain ⟨n, hn⟩ := evD_lim hv
   refine ⟨n + 1, ?_⟩
   rw [hv] at h
   simp only [exec, hh]
   rw [hn]; exact h
theorem evT_evOps {cl : CallF} {ops : List Oper} : ∀ (l : List Oper) (fr : Fr) (H : Hp), (evT E cl ops l fr H).map (fun x => (x.1, x.2.1)) = evOps E cl ops l fr H
 | [], fr, H => rfl
 | o :: l, fr, H => by
  simp only [evT, stp, evOps]
  cases guardE ops fr o with
  | none => rfl
  | some b =>
   cases b with
   | false =>
    simp only
    rw [← evT_evOps l]
    cases evT E cl ops l (putD o.dst (.tup []) fr) H <;> rfl
   | true =>
    simp only
    cases evOp E cl o.op fr H with
    | none => rfl
    | some x =>
     simp only
     rw [← evT_evOps l]
     cases evT E cl ops l (putD o.dst x.1 fr) x.2 <;> rfl
theorem execT_draw0 (hh : E.hol f id = false) (hfl : E.flo f id = []) (ops : Array Oper) : execT E B f (.region id ops true) fr H = regK E f id (evOps E (callT E) ops.toList ops.toList fr H) := by
 rw [execT_draw hh, ← evT_evOps]
 cases evT E (callT E) ops.toList ops.toList fr H with
 | none => rfl
 | some x =>
  obtain ⟨fr', H', tr⟩ := x
  simp only [regTK, hfl, List.all_nil, if_true, Option.map_some, regK]
def seqK (k : Fr → Hp → Option (Ex × Fr × Hp)) (r : Option (Ex × Fr × Hp)) : Option (Ex × Fr × Hp) := match r with
 | some (.normal, fr', H') => k fr' H'
 | r => r
theorem execT_seq (a b : Code) : execT E B f (.seq a b) fr H = seqK (execT E B f b) (execT E B f a fr H) := by
 refine Option.ext fun r => ?_
 rw [execT_iff]
 constructor
 ·rintro ⟨n, h⟩
  cases n with
  | zero => simp [exec] at h
  | succ n =>
   rw [exec] at h
   cases hx : exec E n B f a fr H with
   | none => rw [hx] at h; cases h
   | some x =>
    rw [hx] at h
    rw [execT_iff.2 ⟨n, hx⟩]
    obtain ⟨ex, fr', H'⟩ := x
    cases ex with
    | normal => exact execT_iff.2 ⟨n, h⟩
    | exit id => exact h
    | ret => exact h
 ·intro h
  cases hx : execT E B f a fr H with
  | none => rw [hx] at h; cases h
  | some x =>
   rw [hx] at h
   obtain ⟨n, hn⟩ := execT_iff.1 hx
   obtain ⟨ex, fr', H'⟩ := x
   cases ex with
   | normal =>
    obtain ⟨m, hm⟩ := execT_iff.1 h
    refine ⟨max n m + 1, ?_⟩
    rw [exec, exec_mono (Nat.le_max_left n m) _ _ _ _ _ _ hn]
    exact exec_mono (Nat.le_max_right n m) _ _ _ _ _ _ hm
   | exit id => exact ⟨n + 1, by rw [exec, hn]; exact h⟩
   | ret => exact ⟨n + 1, by rw [exec, hn]; exact h⟩
theorem execT_loop (c : Code) : execT E B f (.loop c) fr H = seqK (execT E B f (.loop c)) (execT E B f c (hdE E B f ((firstRegion c).getD 0) fr H).1 (hdE E B f ((firstRegion c).getD 0) fr H).2) := by
 refine Option.ext fun r => ?_
 rw [execT_iff]
 constructor
 ·rintro ⟨n, h⟩
  cases n with
  | zero => simp [exec] at h
  | succ n =>
   rw [exec] at h
   cases hx : exec E n B f c (hdE E B f ((firstRegion c).getD 0) fr H).1 (hdE E B f ((firstRegion c).getD 0) fr H).2 with
   | none => rw [hx] at h; cases h
   | some x =>
    rw [hx] at h
    rw [execT_iff.2 ⟨n, hx⟩]
    obtain ⟨ex, fr', H'⟩ := x
    cases ex with
    | normal => exact execT_iff.2 ⟨n, h⟩
    | exit id => exact h
    | ret => exact h
 ·intro h
  cases hx : execT E B f c (hdE E B f ((firstRegion c).getD 0) fr H).1 (hdE E B f ((firstRegion c).getD 0) fr H).2 with
  | none => rw [hx] at h; cases h
  | some x =>
   rw [hx] at h
   obtain ⟨n, hn⟩ := execT_iff.1 hx
   obtain ⟨ex, fr', H'⟩ := x
   cases ex with
   | normal =>
    obtain ⟨m, hm⟩ := execT_iff.1 h
    refine ⟨max n m + 1, ?_⟩
    rw [exec, exec_mono (Nat.le_max_left n m) _ _ _ _ _ _ hn]
    exact exec_mono (Nat.le_max_right n m) _ _ _ _ _ _ hm
   | exit id => exact ⟨n + 1, by rw [exec, hn]; exact h⟩
   | ret => exact ⟨n + 1, by rw [exec, hn]; exact h⟩
def condK (v : AV) (a b : Option (Ex × Fr × Hp)) : Option (Ex × Fr × Hp) := match v with
 | .i (.v (.bool true)) => a
 | .i (.v (.bool false)) => b
 | _ => none
theorem condK_dec (p : Prop) [Decidable p] (a b : Option (Ex × Fr × Hp)) : condK (.i (.v (.bool (decide p)))) a b = if p then a else b := by
 by_cases h : p <;> simp [h, condK]
theorem execT_cond (c : Operand) (a b : Code) : execT E B f (.cond c a b) fr H = condK (opd E fr c) (execT E B f a fr H) (execT E B f b fr H) := by
 refine Option.ext fun r => ?_
 rw [execT_iff]
 constructor
 ·rintro ⟨n, h⟩
  cases n with
  | zero => simp [exec] at h
  | succ n =>
   rw [exec] at h
   split at h
   ·rename_i hc
    rw [hc]; exact execT_iff.2 ⟨n, h⟩
   ·rename_i hc
    rw [hc]; exact execT_iff.2 ⟨n, h⟩
   ·cases h
 ·intro h
  unfold condK at h
  split at h
  ·rename_i hc
   obtain ⟨n, hn⟩ := execT_iff.1 h
   exact ⟨n + 1, by rw [exec, hc]; exact hn⟩
  ·rename_i hc
   obtain ⟨n, hn⟩ := execT_iff.1 h
   exact ⟨n + 1, by rw [exec, hc]; exact hn⟩
  ·cases h
def blockK (id : Nat) (r : Option (Ex × Fr × Hp)) : Option (Ex × Fr × Hp) := match r with
 | some (.exit j, fr', H') => if j = id then some (.normal, fr', H') else some (.exit j, fr', H')
 | r => r
theorem execT_block (id : Nat) (c : Code) : execT E B f (.block id c) fr H = blockK id (execT E B f c fr H) := by
 refine Option.ext fun r => ?_
 rw [execT_iff]
 constructor
 ·rintro ⟨n, h⟩
  cases n with
  | zero => simp [exec] at h
  | succ n =>
   rw [exec] at h
   cases hx : exec E n B f c fr H with
   | none => rw [hx] at h; cases h
   | some x =>
    rw [hx] at h
    rw [execT_iff.2 ⟨n, hx⟩]
    exact h
 ·intro h
  cases hx : execT E B f c fr H with
  | none => rw [hx] at h; cases h
  | some x =>
   rw [hx] at h
   obtain ⟨n, hn⟩ := execT_iff.1 hx
   exact ⟨n + 1, by rw [exec, hn]; exact h⟩
theorem execT_scope (c : Code) : execT E B f (.scope c) fr H = execT E B f c fr H := by
 refine Option.ext fun r => ?_
 rw [execT_iff, execT_iff]
 constructor
 ·rintro ⟨n, h⟩
  cases n with
  | zero => simp [exec] at h
  | succ n => exact ⟨n, by simpa only [exec] using h⟩
 ·rintro ⟨n, h⟩
  exact ⟨n + 1, by simpa only [exec] using h⟩

theorem rd_lim {f : FuncId} {a b : Code} {fr : Fr} {H : Hp} {q : Ex × Hp} (hr : rdE (fun B' c fr H => execT E B' f c fr H) a b fr H = some q) : ∃ n, rdE (fun B' c fr H => exec E n B' f c fr H) a b fr H = some q := by
 unfold rdE at hr
 split at hr
 ·rename_i fr1 H1 h1
  split at hr
  ·rename_i e fr2 H2 h2
   obtain ⟨n, hn⟩ := execT_iff.1 h1
   obtain ⟨m, hm⟩ := execT_iff.1 h2
   refine ⟨max n m, ?_⟩
   have k1 := exec_mono (Nat.le_max_left n m) _ _ _ _ _ _ hn
   have k2 := exec_mono (Nat.le_max_right n m) _ _ _ _ _ _ hm
   unfold rdE
   simp only [k1, k2]
   exact hr
  ·cases hr
 ·cases hr
theorem rg_lim {f : FuncId} {a b : Code} {p : Nat} {fr : Fr} {caps : List AV} {css : List (List Int)} : ∀ (xs : List Int) {H : Hp} {r : Ex × Fr × Hp}, rgE (rdE (fun B' c fr H => execT E B' f c fr H) a b) p fr caps css xs H = some r →
  ∃ n, rgE (rdE (fun B' c fr H => exec E n B' f c fr H) a b) p fr caps css xs H = some r
 | [], H, r, hr => ⟨0, hr⟩
 | x :: xs, H, r, hr => by
  simp only [rgE] at hr
  cases hx : rdE (fun B' c fr H => execT E B' f c fr H) a b ((p, .i (.v (.int .i64 x))) :: fr) H with
  | none => rw [hx] at hr; cases hr
  | some q =>
   rw [hx] at hr
   obtain ⟨n, hn⟩ := rd_lim hx
   obtain ⟨e, H1⟩ := q
   cases e with
   | normal =>
    simp only at hr
    split at hr
    ·rename_i hc
     obtain ⟨m, hm⟩ := rg_lim xs hr
     refine ⟨max n m, ?_⟩
     have h1 := rd_le (fun B c fr H r hr => exec_mono (Nat.le_max_left n m) _ _ _ _ _ _ hr) hn
     have h2 := rg_le (fun fr H q hq => rd_le (fun B c fr H r hr => exec_mono (Nat.le_max_right n m) _ _ _ _ _ _ hr) hq) xs hm
     simp only [rgE]
     rw [h1]
     simp only
     rw [if_pos hc]; exact h2
    ·cases hr
   | exit id => exact ⟨n, by simp only [rgE]; rw [hn]; exact hr⟩
   | ret => exact ⟨n, by simp only [rgE]; rw [hn]; exact hr⟩
def rgO (rd : Fr → Hp → Option (Ex × Hp)) (p : Nat) (fr : Fr) (H : Hp) : Option (List Int × List AV × List (List Int)) → Option (Ex × Fr × Hp)
 | some (xs, caps, css) => rgE rd p fr caps css xs H
 | none => none
theorem execT_rangeFunc (g : Operand) (p : Nat) (a b : Code) : execT E B f (.rangeFunc g #[p] a b) fr H = rgO (rdE (fun B' c fr H => execT E B' f c fr H) a b) p fr H (seqE E H (opd E fr g)) := by
 apply Option.ext
 intro r
 rw [execT_iff]
 constructor
 ·rintro ⟨n, hn⟩
  cases n with
  | zero => simp [exec] at hn
  | succ n =>
   rw [exec_rangeF] at hn
   cases hs : seqE E H (opd E fr g) with
   | none => rw [hs] at hn; cases hn
   | some q =>
    obtain ⟨xs, caps, css⟩ := q
    rw [hs] at hn
    exact rg_le (fun fr H q hq => rd_le (fun B c fr H r hr => execT_iff.2 ⟨n, hr⟩) hq) xs hn
 ·intro h
  cases hs : seqE E H (opd E fr g) with
  | none => rw [hs] at h; cases h
  | some q =>
   obtain ⟨xs, caps, css⟩ := q
   rw [hs] at h
   obtain ⟨n, hn⟩ := rg_lim xs h
   exact ⟨n + 1, by rw [exec_rangeF, hs]; exact hn⟩

def endK (E : Env) (f : FuncId) (B : Nat) (rs : List ResultVar) (r : Option (Ex × Fr × Hp)) : Option (AV × Hp) := match r with
 | some (.exit _, _, _) => none
 | some (_, fr, H') => match resE E fr H' rs with
  | some r => retE E f B H' r
  | none => none
 | none => none
theorem callT_eq {fn : Func} {c : Code} {args : List AV} (hf : E.P.funcs[f]? = some fn) (hc : fn.body = some c) (hok : fnOk E f = true) (hl : args.length ≤ fn.ntmps) :
  callT E f args H = endK E f H.length fn.results.toList (execT E H.length f c (frameOf 0 args) H) := by
 unfold callT callLoc endK
 rw [hf]
 simp only [hc]
 rw [if_pos ⟨hok, hl⟩]
 cases execT E H.length f c (frameOf 0 args) H with
 | none => rfl
 | some x =>
  obtain ⟨ex, fr, H'⟩ := x
  cases ex <;> rfl
theorem callT_ok (hext : ExtOK E) (hseq : SeqOK E) : CallOK E (callT E) := by
 intro f args H r H' h
 obtain ⟨n, hn⟩ := callT_lim h
 exact call_ok hext hseq n f args H r H' hn
theorem callT_of {n : Nat} {args : List AV} {r : AV × Hp} (h : call E n f args H = some r) : callT E f args H = some r := cle_T n _ _ _ _ h
end
end Go.VI

set_option linter.unusedSimpArgs false
set_option linter.unusedVariables false
namespace Go.VI
open Go.WideShapes Go.ChangeShapes
section
variable {E : Env}

def imm0 (w : World) : Imm := fun b => w.heap[b]?
def eta0 : Eta := fun _ => none
theorem conc_start (w : World) (hg : ∀ g cells, E.glob g = some cells → GlobOK (imm0 w) g cells) : Conc E (imm0 w) eta0 [] w :=
 ⟨fun b o h => h, fun c x h => by simp at h, fun c c' b n n' h => by simp [eta0] at h, fun c b n h => by simp [eta0] at h, hg⟩

structure Old (w w' : World) : Prop where
 os : w'.os = w.os
 output : w'.output = w.output
 heap : ∀ b, b < w.heap.size → w'.heap[b]? = w.heap[b]?
theorem Old.kept {w w' : World} (h : Old w w') (may : MemPlace → Prop) : w.keptBut w' may := by
 refine ⟨h.os, h.output, fun i hi => ?_⟩
 rw [h.heap i hi]
 cases hh : w.heap[i]? with
 | none => rfl
 | some o => cases o <;> simp
theorem old_of {w w' : World} {I' : Imm} {η' : Eta} (hT : Trans (imm0 w) eta0 w I' η' w') : Old w w' :=
 ⟨hT.os, hT.output, fun b hb => hT.frame b hb fun c n h => by simp [eta0] at h⟩

theorem law_calls {f : FuncId} {args : List AV} {vs : Array Value} {w : World} {H' : Hp} (h : callT E f args [] = some (.i (.v (.bool true)), H')) (hext : ExtOK E) (hg : ∀ g cells, E.glob g = some cells → GlobOK (imm0 w) g cells)
  (hA : ArgsOK (imm0 w) eta0 [] args vs) (hseq : SeqOK E := by exact Go.VI.noSeq fun _ => rfl) : Calls E.P f vs w fun e w' => e = .returned (.bool true) ∧ Old w w' :=
 (callT_ok hext hseq f args [] _ H' h _ _ w vs (conc_start w hg) hA).mono fun e w' he => by
  obtain ⟨x, rfl, I2, η2, _, k2, _, k4⟩ := he
  exact ⟨congrArg _ (relA_v k4), old_of k2⟩

theorem args_nil {I η H} : ArgsOK I η H [] #[] := ⟨rfl, fun k a h => by simp at h⟩
def RelAs (I : Imm) (η : Eta) (H : Hp) : List AV → List Value → Prop
 | [], [] => True
 | a :: as0, v :: vs => RelA I η H a v ∧ RelAs I η H as0 vs
 | _, _ => False
theorem args_of {I η H} : ∀ {as0 : List AV} {vs : List Value}, RelAs I η H as0 vs → ArgsOK I η H as0 vs.toArray
 | [], [], _ => args_nil
 | a :: as0, v :: vs, h => by
  have ih := args_of h.2
  refine ⟨by simpa using ih.1, fun k b hk => ?_⟩
  cases k with
  | zero => simp at hk; subst hk; simpa using h.1
  | succ k => simpa using ih.2 k b (by simpa using hk)
 | [], _ :: _, h => h.elim
 | _ :: _, [], h => h.elim
theorem post_of_old {H : Type} {enc : TypeId × Value → H} {P : Program} {f : Func} {s : ChangeSpec} {apart fresh handsOn : Bool} {W W' : World} {args : Array Value} {v : Value} {ds gs : List (DataW H)} {before pa pv : List MemPlace}
  (hW : DataW.Whole enc P f.params.toList s.vars apart W args.toList ds gs before)
  (hres : ∀ (b : Nat) (sp : Nat → Bool) (hd : Bool), DataW.TrodAll enc P W' b sp hd f.resultTypes.toList (v.resultList f.resultTypes.size) (s.fn H (ds ++ gs)).results [])
  (hargs : ∀ sp : Nat → Bool, (∀ p ∈ before, sp p.block = true) → DataW.TrodAll enc P W' 0 sp true f.params.toList args.toList (s.fn H (ds ++ gs)).args pa)
  (hvars : ∀ sp : Nat → Bool, (∀ p ∈ before, sp p.block = true) → DataW.TrodVars enc P W' sp s.vars (s.fn H (ds ++ gs)).vars pv)
  (hold : Old W W') (hps : before = pa ++ pv) : s.post enc P f apart fresh handsOn false W args v W' := by
 have hlt : ∀ p ∈ before, (fun b => decide (b < W.heap.size)) p.block = true := fun p hp => by simpa using hW.lt p hp
 exact ⟨ds, gs, before, [], pa, pv, hW, hres _ _ _, hargs _ hlt, hvars _ hlt, hold.kept _, fun h => by cases h⟩
end
end Go.VI

set_option linter.unusedSimpArgs false
set_option linter.unusedVariables false
namespace Go.VI
section
variable {E : Env} {cl : CallF} {ops : List Oper} {fr : Fr} {H : Hp} {f : FuncId}

def opK (E : Env) (cl : CallF) (ops : List Oper) (dst : Option Nat) (r : List Oper) (fr : Fr) : Option (AV × Hp) → Option (Fr × Hp)
 | some (v, H') => evOps E cl ops r (putD dst v fr) H'
 | none => none
def gV (want : Bool) : AV → Option Bool
 | .i (.v (.bool b)) => some (b == want)
 | .tup [] => some false
 | _ => none
def gB (ops : List Oper) (fr : Fr) (j : Nat) (want : Bool) : Option Bool :=
 match (ops[j]?).bind (·.dst) with
 | some d => gV want (get d fr)
 | none => none
def guK (E : Env) (cl : CallF) (ops : List Oper) (dst : Option Nat) (op : Op) (r : List Oper) (fr : Fr) (H : Hp) : Option Bool → Option (Fr × Hp)
 | some true => opK E cl ops dst r fr (evOp E cl op fr H)
 | some false => evOps E cl ops r (putD dst (.tup []) fr) H
 | none => none
theorem opK_some (dst : Option Nat) (r : List Oper) (v : AV) (H' : Hp) : opK E cl ops dst r fr (some (v, H')) = evOps E cl ops r (putD dst v fr) H' := rfl
theorem guK_t (dst : Option Nat) (op : Op) (r : List Oper) : guK E cl ops dst op r fr H (some true) = opK E cl ops dst r fr (evOp E cl op fr H) := rfl
theorem guK_f (dst : Option Nat) (op : Op) (r : List Oper) : guK E cl ops dst op r fr H (some false) = evOps E cl ops r (putD dst (.tup []) fr) H := rfl
theorem gV_b (b want : Bool) : gV want (.i (.v (.bool b))) = some (b == want) := rfl
theorem gV_u (want : Bool) : gV want (.tup []) = some false := rfl
theorem evOps_nil : evOps E cl ops [] fr H = some (fr, H) := rfl
theorem evOps_cons (dst : Option Nat) (op : Op) (ty : TypeId) (pos : String) (af : Array Edge) (r : List Oper) : evOps E cl ops (⟨dst, op, ty, pos, af, none⟩ :: r) fr H = opK E cl ops dst r fr (evOp E cl op fr H) := by
 simp only [evOps, guardE]
 cases evOp E cl op fr H with
 | none => rfl
 | some x => rfl
theorem guard_gB (dst : Option Nat) (op : Op) (ty : TypeId) (pos : String) (af : Array Edge) (j : Nat) (w : Bool) : guardE ops fr ⟨dst, op, ty, pos, af, some (j, w)⟩ = gB ops fr j w := by
 simp only [guardE, gB]
 cases (ops[j]?).bind (·.dst) with
 | none => rfl
 | some d => simp only [gV]; rfl
theorem evOps_guard (dst : Option Nat) (op : Op) (ty : TypeId) (pos : String) (af : Array Edge) (j : Nat) (w : Bool) (r : List Oper) : evOps E cl ops (⟨dst, op, ty, pos, af, some (j, w)⟩ :: r) fr H = guK E cl ops dst op r fr H (gB ops fr j w) := by
 simp only [evOps, guard_gB]
 cases gB ops fr j w with
 | none => rfl
 | some b =>
  cases b with
  | false => rfl
  | true =>
   simp only [guK]
   cases evOp E cl op fr H with
   | none => rfl
   | some x => rfl

def tK (t : List Nat) : Option (Fr × Hp × List (List Nat)) → Option (Fr × Hp × List (List Nat))
 | some (fr2, H2, ts) => some (fr2, H2, t :: ts)
 | none => none
def opT (E : Env) (cl : CallF) (ops : List Oper) (dst : Option Nat) (op : Op) (r : List Oper) (fr : Fr) (H : Hp) : Option (AV × Hp) → Option (Fr × Hp × List (List Nat))
 | some (v, H') => tK (touch E fr H op ++ List.range' H.length (H'.length - H.length)) (evT E cl ops r (putD dst v fr) H')
 | none => none
def guT (E : Env) (cl : CallF) (ops : List Oper) (dst : Option Nat) (op : Op) (r : List Oper) (fr : Fr) (H : Hp) : Option Bool → Option (Fr × Hp × List (List Nat))
 | some true => opT E cl ops dst op r fr H (evOp E cl op fr H)
 | some false => tK [] (evT E cl ops r (putD dst (.tup []) fr) H)
 | none => none
theorem tK_some (t : List Nat) (fr2 : Fr) (H2 : Hp) (ts : List (List Nat)) : tK t (some (fr2, H2, ts)) = some (fr2, H2, t :: ts) := rfl
theorem opT_some (dst : Option Nat) (op : Op) (r : List Oper) (v : AV) (H' : Hp) : opT E cl ops dst op r fr H (some (v, H')) = tK (touch E fr H op ++ List.range' H.length (H'.length - H.length)) (evT E cl ops r (putD dst v fr) H') := rfl
theorem guT_t (dst : Option Nat) (op : Op) (r : List Oper) : guT E cl ops dst op r fr H (some true) = opT E cl ops dst op r fr H (evOp E cl op fr H) := rfl
theorem guT_f (dst : Option Nat) (op : Op) (r : List Oper) : guT E cl ops dst op r fr H (some false) = tK [] (evT E cl ops r (putD dst (.tup []) fr) H) := rfl
theorem evT_nil : evT E cl ops [] fr H = some (fr, H, []) := rfl
theorem evT_cons (dst : Option Nat) (op : Op) (ty : TypeId) (pos : String) (af : Array Edge) (r : List Oper) : evT E cl ops (⟨dst, op, ty, pos, af, none⟩ :: r) fr H = opT E cl ops dst op r fr H (evOp E cl op fr H) := by
 simp only [evT, stp, guardE]
 cases evOp E cl op fr H with
 | none => rfl
 | some x => simp only [opT, tK]; rfl
theorem evT_guard (dst : Option Nat) (op : Op) (ty : TypeId) (pos : String) (af : Array Edge) (j : Nat) (w : Bool) (r : List Oper) : evT E cl ops (⟨dst, op, ty, pos, af, some (j, w)⟩ :: r) fr H = guT E cl ops dst op r fr H (gB ops fr j w) := by
 simp only [evT, stp, guard_gB]
 cases gB ops fr j w with
 | none => rfl
 | some b =>
  cases b with
  | false => simp only [guT, tK]; rfl
  | true =>
   simp only [guT]
   cases evOp E cl op fr H with
   | none => rfl
   | some x => simp only [opT, tK]; rfl

def opD (E : Env) (cl : CallF) (ops : List Oper) (c : Nat) (dst : Option Nat) (op : Op) (r : List Oper) (fr : Fr) (H : Hp) : Option (AV × Hp) → Option (Fr × Hp × List (List Nat))
 | some (v, H') => tK (touchD E c fr H op ++ List.range' H.length (H'.length - H.length)) (evD E cl ops (stepC c op) r (putD dst v fr) H')
 | none => none
def guD (E : Env) (cl : CallF) (ops : List Oper) (c : Nat) (dst : Option Nat) (op : Op) (r : List Oper) (fr : Fr) (H : Hp) : Option Bool → Option (Fr × Hp × List (List Nat))
 | some true => opD E cl ops c dst op r fr H (evOpD E cl c op fr H)
 | some false => tK [] (evD E cl ops (stepC c op) r (putD dst (.tup []) fr) H)
 | none => none
theorem opD_some (c : Nat) (dst : Option Nat) (op : Op) (r : List Oper) (v : AV) (H' : Hp) : opD E cl ops c dst op r fr H (some (v, H')) = tK (touchD E c fr H op ++ List.range' H.length (H'.length - H.length)) (evD E cl ops (stepC c op) r (putD dst v fr) H') := rfl
theorem guD_t (c : Nat) (dst : Option Nat) (op : Op) (r : List Oper) : guD E cl ops c dst op r fr H (some true) = opD E cl ops c dst op r fr H (evOpD E cl c op fr H) := rfl
theorem guD_f (c : Nat) (dst : Option Nat) (op : Op) (r : List Oper) : guD E cl ops c dst op r fr H (some false) = tK [] (evD E cl ops (stepC c op) r (putD dst (.tup []) fr) H) := rfl
theorem guD_dec (c : Nat) (dst : Option Nat) (op : Op) (r : List Oper) (p : Prop) [Decidable p] : guD E cl ops c dst op r fr H (some (decide p)) = if p then opD E cl ops c dst op r fr H (evOpD E cl c op fr H) else tK [] (evD E cl ops (stepC c op) r (putD dst (.tup []) fr) H) := by by_cases h : p <;> simp [h, guD]
theorem guD_b (c : Nat) (dst : Option Nat) (op : Op) (r : List Oper) (b : Bool) : guD E cl ops c dst op r fr H (some b) = if b = true then opD E cl ops c dst op r fr H (evOpD E cl c op fr H) else tK [] (evD E cl ops (stepC c op) r (putD dst (.tup []) fr) H) := by cases b <;> rfl
theorem evD_nil (c : Nat) : evD E cl ops c [] fr H = some (fr, H, []) := rfl
theorem evD_op (c : Nat) (dst : Option Nat) (op : Op) (ty : TypeId) (pos : String) (af : Array Edge) (r : List Oper) : evD E cl ops c (⟨dst, op, ty, pos, af, none⟩ :: r) fr H = opD E cl ops c dst op r fr H (evOpD E cl c op fr H) := by
 simp only [evD, guardE]
 cases evOpD E cl c op fr H with
 | none => rfl
 | some x => simp only [opD, tK]; rfl
theorem evD_guard (c : Nat) (dst : Option Nat) (op : Op) (ty : TypeId) (pos : String) (af : Array Edge) (j : Nat) (w : Bool) (r : List Oper) : evD E cl ops c (⟨dst, op, ty, pos, af, some (j, w)⟩ :: r) fr H = guD E cl ops c dst op r fr H (gB ops fr j w) := by
 simp only [evD, guard_gB]
 cases gB ops fr j w with
 | none => rfl
 | some b =>
  cases b with
  | false => simp only [guD, tK]; rfl
  | true =>
   simp only [guD]
   cases evOpD E cl c op fr H with
   | none => rfl
   | some x => simp only [opD, tK]; rfl
theorem putH_hole (c : Nat) (r : Option (Option Nat × Chunk)) : putH c H r (some (.sl 0 0 [] true)) = match r with | some (k, ch) => some (mkR c k, H.set c ch) | none => none := rfl

def crK (args : List AV) : Option (List AV × Hp) → List Nat
 | some (as0, H1) => refsL args ++ reach H1 64 (refsL as0) []
 | none => []
theorem crK_some (args as0 : List AV) (H1 : Hp) : crK args (some (as0, H1)) = refsL args ++ reach H1 64 (refsL as0) [] := rfl
theorem cr_prep {f : FuncId} (args : List AV) : calleeR E f args H = crK args (prepE E f H args) := by
 unfold calleeR crK; cases prepE E f H args <;> rfl
theorem reach_nil (n : Nat) (seen : List Nat) : reach H n [] seen = seen := by cases n <;> rfl
def tcK (E : Env) (H : Hp) (args : List AV) : AV → List Nat
 | .clo (.func g) first caps => calleeR E g (first ++ args ++ caps) H
 | _ => []
theorem tcK_f (args : List AV) (g : Nat) (first caps : List AV) : tcK E H args (.clo (.func g) first caps) = calleeR E g (first ++ args ++ caps) H := rfl
theorem touch_call (x : Operand) (args : Array Operand) (tys : Array TypeId) : touch E fr H (.call ⟨.value x, args, tys⟩) = tcK E H (args.toList.map (opd E fr)) (opd E fr x) := by
 simp only [touch, calleeE, tcK]
 split
 ·rename_i g as0 hg
  split at hg
  ·rename_i g' first caps hx
   simp only [Option.some.injEq, Prod.mk.injEq] at hg
   obtain ⟨rfl, rfl⟩ := hg
   rw [hx]
  ·cases hg
 ·rename_i hg
  split at hg
  ·cases hg
  ·rename_i hne
   split
   ·rename_i g first caps hx; exact absurd hx (hne _ _ _)
   ·rfl
theorem touch_bi (b : Builtin) (args : Array Operand) (tys : Array TypeId) : touch E fr H (.call ⟨.builtin b, args, tys⟩) = refsL (args.toList.map (opd E fr)) := rfl
theorem touch_load (t : TypeId) (x : Operand) : touch E fr H (.load t x) = refsA (opd E fr x) := rfl
theorem touch_ia (t : TypeId) (x i : Operand) : touch E fr H (.indexAddr t x i) = refsA (opd E fr x) := rfl
theorem touch_slice (t : TypeId) (x : Operand) (lo hi mx : Option Operand) : touch E fr H (.slice t x lo hi mx) = refsA (opd E fr x) := rfl
theorem touch_store (t : TypeId) (a x : Operand) : touch E fr H (.store t a x) = refsA (opd E fr a) ++ refsA (opd E fr x) := rfl
theorem touch_bs (t : TypeId) (n : Nat) (ps : Array (Nat × Operand)) : touch E fr H (.buildSlice t n ps) = buildRefs E t n (ps.toList.map fun p => (p.1, opd E fr p.2)) := rfl

theorem touch_move (x : Operand) : touch E fr H (.move x) = [] := rfl
theorem touch_assign (x : Operand) : touch E fr H (.assign x) = [] := rfl
theorem touch_pick (a b c : Operand) : touch E fr H (.pick a b c) = [] := rfl
theorem touch_bin (op : BinOp) (t u : TypeId) (x y : Operand) : touch E fr H (.binOp op t x y u) = [] := rfl
theorem touch_un (op : UnOp) (t : TypeId) (x : Operand) : touch E fr H (.unOp op t x) = [] := rfl
theorem touch_conv (s d : TypeId) (x : Operand) : touch E fr H (.convert s d x) = refsA (opd E fr x) := rfl
theorem touch_range (t : TypeId) (x : Operand) : touch E fr H (.range t x) = [] := rfl
theorem touch_next (it : Operand) (b : Bool) : touch E fr H (.next it b) = refsA (opd E fr it) := rfl
theorem touch_mf (fn : Fn) (a b : Array Operand) : touch E fr H (.makeFunc fn a b) = [] := rfl
theorem touch_field (t : TypeId) (x : Operand) (k : Nat) : touch E fr H (.field t x k) = [] := rfl
theorem touch_fa (t : TypeId) (x : Operand) (k : Nat) : touch E fr H (.fieldAddr t x k) = [] := rfl
theorem touch_ix (t : TypeId) (x y : Operand) : touch E fr H (.index t x y) = [] := rfl
theorem touch_ex (x : Operand) (n : Nat) : touch E fr H (.extract x n) = [] := rfl
theorem touch_nil (x : Operand) : touch E fr H (.nilCheck x) = [] := rfl
theorem touch_bd (t : TypeId) (ps : Array (Nat × Operand)) : touch E fr H (.build t ps) = [] := rfl
theorem touch_alloc (t : TypeId) : touch E fr H (.alloc t) = [] := rfl
theorem touch_box (t : TypeId) (x : Operand) : touch E fr H (.box t x) = [] := rfl
theorem touch_ms (t : TypeId) (x y : Operand) : touch E fr H (.makeSlice t x y) = [] := rfl

theorem seqK_n (k : Fr → Hp → Option (Ex × Fr × Hp)) (fr' : Fr) (H' : Hp) : seqK k (some (.normal, fr', H')) = k fr' H' := rfl
theorem seqK_e (k : Fr → Hp → Option (Ex × Fr × Hp)) (id : Nat) (fr' : Fr) (H' : Hp) : seqK k (some (.exit id, fr', H')) = some (.exit id, fr', H') := rfl
theorem seqK_r (k : Fr → Hp → Option (Ex × Fr × Hp)) (fr' : Fr) (H' : Hp) : seqK k (some (.ret, fr', H')) = some (.ret, fr', H') := rfl
theorem regK_some (id : Nat) (fr' : Fr) (H' : Hp) : regK E f id (some (fr', H')) = some (.normal, norm (E.keep f id) fr', H') := rfl
theorem regTK_some (id : Nat) (fr' : Fr) (H' : Hp) (tr : List (List Nat)) : regTK E f id (some (fr', H', tr)) = if (E.flo f id).all (floatOk tr) = true then some (.normal, norm (E.keep f id) fr', H') else none := rfl
theorem condK_t (a b : Option (Ex × Fr × Hp)) : condK (.i (.v (.bool true))) a b = a := rfl
theorem condK_f (a b : Option (Ex × Fr × Hp)) : condK (.i (.v (.bool false))) a b = b := rfl
theorem blockK_n (id : Nat) (fr' : Fr) (H' : Hp) : blockK id (some (.normal, fr', H')) = some (.normal, fr', H') := rfl
theorem blockK_r (id : Nat) (fr' : Fr) (H' : Hp) : blockK id (some (.ret, fr', H')) = some (.ret, fr', H') := rfl
theorem blockK_e (id j : Nat) (fr' : Fr) (H' : Hp) : blockK id (some (.exit j, fr', H')) = if j = id then some (.normal, fr', H') else some (.exit j, fr', H') := rfl
def endR (E : Env) (f : FuncId) (B : Nat) (H : Hp) : Option AV → Option (AV × Hp)
 | some r => retE E f B H r
 | none => none
theorem endR_some (B : Nat) (r : AV) : endR E f B H (some r) = retE E f B H r := rfl
theorem endK_r (B : Nat) (rs : List ResultVar) (fr' : Fr) (H' : Hp) : endK E f B rs (some (.ret, fr', H')) = endR E f B H' (resE E fr' H' rs) := by
 simp only [endK, endR] <;> rfl
theorem endK_n (B : Nat) (rs : List ResultVar) (fr' : Fr) (H' : Hp) : endK E f B rs (some (.normal, fr', H')) = endR E f B H' (resE E fr' H' rs) := by
 simp only [endK, endR] <;> rfl
def rtK (E : Env) (f : FuncId) (B : Nat) (H : Hp) (vs : List AV) : Bool → Option (List AV × Hp)
 | true => some (cnL B (matL (E.resk f) vs H).2 (matL (E.resk f) vs H).1, cnHs B (matL (E.resk f) vs H).2 0 (matL (E.resk f) vs H).2)
 | false => match prep H vs with
  | some (as0, H1) => some (cnL B H1 (canLs (E.resk f) as0), cnHs B H1 0 H1)
  | none => none
def rtP (E : Env) (f : FuncId) (B : Nat) : Option (List AV × Hp) → Option (List AV × Hp)
 | some (as0, H1) => some (cnL B H1 (canLs (E.resk f) as0), cnHs B H1 0 H1)
 | none => none
theorem retL_eq (B : Nat) (vs : List AV) : retL E f B H vs = rtK E f B H vs (E.own f) := by
 unfold retL rtK; cases E.own f <;> rfl
theorem rtK_f (B : Nat) (vs : List AV) : rtK E f B H vs false = rtP E f B (prep H vs) := by
 unfold rtK rtP; rfl
theorem rtK_t (B : Nat) (vs : List AV) : rtK E f B H vs true = some (cnL B (matL (E.resk f) vs H).2 (matL (E.resk f) vs H).1, cnHs B (matL (E.resk f) vs H).2 0 (matL (E.resk f) vs H).2) := rfl
theorem rtP_some (B : Nat) (as0 : List AV) (H1 : Hp) : rtP E f B (some (as0, H1)) = some (cnL B H1 (canLs (E.resk f) as0), cnHs B H1 0 H1) := rfl
theorem retE_tup (B : Nat) (vs : List AV) : retE E f B H (.tup vs) = retN (retL E f B H vs) := rfl
theorem retE_i (B : Nat) (x : IV) : retE E f B H (.i x) = ret1 (retL E f B H [.i x]) := rfl
theorem retE_agg (B : Nat) (l : List AV) : retE E f B H (.agg l) = ret1 (retL E f B H [.agg l]) := rfl
theorem retE_ref (B c g o n : Nat) : retE E f B H (.ref c g o n) = ret1 (retL E f B H [.ref c g o n]) := rfl
theorem retE_ptr (B c g r k : Nat) : retE E f B H (.ptr c g r k) = ret1 (retL E f B H [.ptr c g r k]) := rfl
theorem retE_clo (B : Nat) (fn : Fn) (a b : List AV) : retE E f B H (.clo fn a b) = ret1 (retL E f B H [.clo fn a b]) := rfl
theorem ret1_some (a : AV) (H1 : Hp) : ret1 (some ([a], H1)) = some (a, H1) := rfl
theorem retN_some (as0 : List AV) (H1 : Hp) : retN (some (as0, H1)) = some (.tup as0, H1) := rfl
theorem canI_n (x : IV) : canI none x = x := by cases x <;> rfl
theorem canI_v (k : Option Nat) (x : Value) : canI k (.v x) = .v x := by cases k <;> rfl
theorem canI_str (k : Option Nat) (x : List UInt8) : canI k (.str x) = .str x := by cases k <;> rfl
theorem canI_pt (k : Option Nat) (x : List IV) (o : Nat) : canI k (.pt x o) = .pt x o := by cases k <;> rfl
theorem canI_sl (z : Nat) (rows : List (List IV)) (ex : Bool) : canI (some z) (.sl z rows ex) = .sl z rows false := by simp [canI]
theorem canI_nil (z sz : Nat) (ex : Bool) : canI (some z) (.sl sz [] ex) = .sl z [] false := by simp only [canI]; split <;> rfl
theorem canR_nil (l : List IV) : canR [] l = l := by cases l <;> rfl
theorem canR_e (ks : List (Option Nat)) : canR ks [] = [] := by cases ks <;> rfl
theorem canR_cons (k : Option Nat) (ks : List (Option Nat)) (x : IV) (r : List IV) : canR (k :: ks) (x :: r) = canI k x :: canR ks r := rfl
theorem canC_nil (l : List AV) : canC [] l = l := by cases l <;> rfl
theorem canC_e (ks : List (Option Nat)) : canC ks [] = [] := by cases ks <;> rfl
theorem canC_i (k : Option Nat) (ks : List (Option Nat)) (x : IV) (r : List AV) : canC (k :: ks) (.i x :: r) = .i (canI k x) :: canC ks r := rfl
theorem canC_ref (k : Option Nat) (ks : List (Option Nat)) (c g o n : Nat) (r : List AV) : canC (k :: ks) (.ref c g o n :: r) = .ref c g o n :: canC ks r := rfl
theorem canC_ptr (k : Option Nat) (ks : List (Option Nat)) (c g o n : Nat) (r : List AV) : canC (k :: ks) (.ptr c g o n :: r) = .ptr c g o n :: canC ks r := rfl
theorem canC_clo (k : Option Nat) (ks : List (Option Nat)) (f : Fn) (a b : List AV) (r : List AV) : canC (k :: ks) (.clo f a b :: r) = .clo f a b :: canC ks r := rfl
theorem canA_i (k : Option Nat) (ks : List (Option Nat)) (x : IV) : canA (k :: ks) (.i x) = .i (canI k x) := rfl
theorem canA_i0 (x : IV) : canA [] (.i x) = .i x := by show AV.i (canI none x) = _; rw [canI_n]
theorem canA_agg (ks : List (Option Nat)) (l : List AV) : canA ks (.agg l) = .agg (canC ks l) := rfl
theorem canA_ref (ks : List (Option Nat)) (c g o n : Nat) : canA ks (.ref c g o n) = .ref c g o n := rfl
theorem canA_ptr (ks : List (Option Nat)) (c g o n : Nat) : canA ks (.ptr c g o n) = .ptr c g o n := rfl
theorem canA_clo (ks : List (Option Nat)) (fn : Fn) (a b : List AV) : canA ks (.clo fn a b) = .clo fn a b := rfl
theorem canA_tup (ks : List (Option Nat)) (l : List AV) : canA ks (.tup l) = .tup l := rfl
theorem canLs_nil (l : List AV) : canLs [] l = l := by cases l <;> rfl
theorem canLs_e (ks : List (List (Option Nat))) : canLs ks [] = [] := by cases ks <;> rfl
theorem canLs_cons (k : List (Option Nat)) (ks : List (List (Option Nat))) (a : AV) (r : List AV) : canLs (k :: ks) (a :: r) = canA k a :: canLs ks r := rfl
theorem matV_nil (z sz : Nat) : matV z H (.i (.sl sz [] true)) = (.ref H.length 0 0 0, H ++ [.sl z 0 [] false]) := rfl
theorem matV_false (z sz : Nat) (rows : List (List IV)) : matV z H (.i (.sl sz rows false)) = (.i (.sl sz rows false), H) := by cases rows <;> rfl
theorem matV_ref (z c g o n : Nat) : matV z H (.ref c g o n) = (.ref c g o n, H) := rfl
theorem mat1_z (z : Nat) (a : AV) : mat1 [some z] H a = matV z H a := rfl
theorem mat1_n (a : AV) : mat1 [none] H a = (a, H) := rfl
theorem mat1_0 (a : AV) : mat1 [] H a = (a, H) := rfl
theorem mat1_2 (k k' : Option Nat) (ks : List (Option Nat)) (a : AV) : mat1 (k :: k' :: ks) H a = (a, H) := by cases k <;> rfl
theorem matL_nil (l : List AV) : matL [] l H = (l, H) := by cases l <;> rfl
theorem matL_e (ks : List (List (Option Nat))) : matL ks [] H = ([], H) := by cases ks <;> rfl
theorem matL_cons (k : List (Option Nat)) (ks : List (List (Option Nat))) (a : AV) (r : List AV) : matL (k :: ks) (a :: r) H = ((mat1 k H a).1 :: (matL ks r (mat1 k H a).2).1, (matL ks r (mat1 k H a).2).2) := rfl
theorem matF_nil : matF [] fr H = (fr, H) := rfl
theorem matF_cons (k z : Nat) (r : List (Nat × Nat)) : matF ((k, z) :: r) fr H = matF r ((k, (matV z H (get k fr)).1) :: fr) (matV z H (get k fr)).2 := rfl
theorem matB_nil : matB [] fr H = H := rfl
theorem matB_cons (k j z : Nat) (r : List (Nat × Nat × Nat)) : matB ((k, j, z) :: r) fr H = matB r fr (matB2 j z H (get k fr)) := rfl
theorem matB2_ptr (j z c g r k : Nat) : matB2 j z H (.ptr c g r k) = matB1 j z c H H[c]? := rfl
def matB3 (j z c : Nat) (H : Hp) (cells : List AV) : Option AV → Hp
 | some a => (matV z H a).2.set c (.box (cells.set j (matV z H a).1))
 | none => H
theorem matB1_box (j z c : Nat) (cells : List AV) : matB1 j z c H (some (.box cells)) = matB3 j z c H cells cells[j]? := by
 unfold matB1 matB3; simp only; cases cells[j]? <;> rfl
theorem matB3_some (j z c : Nat) (cells : List AV) (a : AV) : matB3 j z c H cells (some a) = (matV z H a).2.set c (.box (cells.set j (matV z H a).1)) := rfl
theorem frzF_nil : frzF [] fr H = (fr, H) := rfl
theorem frzF_cons (k z : Nat) (r : List (Nat × Nat)) : frzF ((k, z) :: r) fr H = frzF r (frz1 k z fr H (freeze H (get k fr))).1 (frz1 k z fr H (freeze H (get k fr))).2 := rfl
theorem frz1_some (k z : Nat) (x : IV) (H1 : Hp) : frz1 k z fr H (some (x, H1)) = ((k, .i (canI (some z) x)) :: fr, H1) := rfl
theorem cnA_i (B : Nat) (x : IV) : cnA B H (.i x) = .i x := by simp [cnA]
theorem cnA_dead (B : Nat) : cnA B H .dead = .dead := by simp [cnA]
theorem cnA_agg (B : Nat) (l : List AV) : cnA B H (.agg l) = .agg (cnL B H l) := by simp [cnA]
theorem cnA_tup (B : Nat) (l : List AV) : cnA B H (.tup l) = .tup (cnL B H l) := by simp [cnA]
theorem cnA_clo (B : Nat) (f : Fn) (a b : List AV) : cnA B H (.clo f a b) = .clo f (cnL B H a) (cnL B H b) := by simp [cnA]
theorem cnA_ref (B c g o n : Nat) : cnA B H (.ref c g o n) = if c < B then .ref c g o n else cnRef c g o n H[c]? := by simp [cnA]
theorem cnA_ptr (B c g r k : Nat) : cnA B H (.ptr c g r k) = if c < B then .ptr c g r k else cnPtr c g r k H[c]? := by simp [cnA]
theorem cnRef_sl (c g o n sz g' : Nat) (rows : List (List IV)) (ex : Bool) : cnRef c g o n (some (.sl sz g' rows ex)) = if g = g' then .ref c 0 o n else .dead := rfl
theorem cnRef_fz (c g o n sz g' : Nat) (rows : List (List IV)) (ex : Bool) : cnRef c g o n (some (.fz sz g' rows ex)) = if g = g' then .i (.sl sz ((rows.drop o).take n) (ex && decide (o + n = rows.length))) else .dead := rfl
theorem cnPtr_sl (c g r k sz g' : Nat) (rows : List (List IV)) (ex : Bool) : cnPtr c g r k (some (.sl sz g' rows ex)) = if g = g' then .ptr c 0 r k else .dead := rfl
theorem cnPtr_fz (c g r k sz g' : Nat) (rows : List (List IV)) (ex : Bool) : cnPtr c g r k (some (.fz sz g' rows ex)) = .ptr c g r k := rfl
theorem cnPtr_box (c g r k : Nat) (cells : List AV) : cnPtr c g r k (some (.box cells)) = .ptr c g r k := rfl
theorem cnPtr_iter (c g r k : Nat) (s : List UInt8) (p : Nat) : cnPtr c g r k (some (.iter s p)) = .ptr c g r k := rfl
theorem cnL_nil (B : Nat) : cnL B H [] = [] := by simp [cnL]
theorem cnL_cons (B : Nat) (a : AV) (r : List AV) : cnL B H (a :: r) = cnA B H a :: cnL B H r := by simp [cnL]
theorem cnC_box (B c : Nat) (cells : List AV) : cnC B H c (.box cells) = .box (cnL B H cells) := rfl
theorem cnC_sl (B c sz g : Nat) (rows : List (List IV)) (ex : Bool) : cnC B H c (.sl sz g rows ex) = if c < B then .sl sz g rows ex else .sl sz 0 rows false := rfl
theorem cnC_fz (B c sz g : Nat) (rows : List (List IV)) (ex : Bool) : cnC B H c (.fz sz g rows ex) = .fz sz g rows ex := rfl
theorem cnC_iter (B c : Nat) (s : List UInt8) (p : Nat) : cnC B H c (.iter s p) = .iter s p := rfl
theorem cnHs_nil (B c : Nat) : cnHs B H c [] = [] := rfl
theorem cnHs_cons (B c : Nat) (x : Chunk) (r : Hp) : cnHs B H c (x :: r) = cnC B H c x :: cnHs B H (c + 1) r := rfl
theorem cnF_nil (B : Nat) : cnF B H [] = [] := rfl
theorem cnF_cons (B k : Nat) (a : AV) (r : Fr) : cnF B H ((k, a) :: r) = (k, cnA B H a) :: cnF B H r := rfl
theorem gcn_eq (B : Nat) : gcn B fr H = gc B (cnF B H fr) (cnHs B H 0 H) := rfl
def peP (E : Env) (g : FuncId) : Option (List AV × Hp) → Option (List AV × Hp)
 | some (as0, H1) => some (canLs (E.argk g) as0, H1)
 | none => none
theorem peP_some (g : FuncId) (as0 : List AV) (H1 : Hp) : peP E g (some (as0, H1)) = some (canLs (E.argk g) as0, H1) := rfl
theorem prepE_v {g : FuncId} (hb : E.byref g = false) (args : List AV) : prepE E g H args = peP E g (prep H args) := by
 unfold prepE peP; rw [hb]; rfl
def prK (a : AV) : Option (List AV × Hp) → Option (List AV × Hp)
 | some (as0, H2) => some (a :: as0, H2)
 | none => none
def prF (r : List AV) : Option (IV × Hp) → Option (List AV × Hp)
 | some (x, H1) => prK (.i x) (prep H1 r)
 | none => none
def prG (l r : List AV) (H : Hp) : Option (List IV × Hp) → Option (List AV × Hp)
 | some (xs, H1) => prK (.agg (ivs xs)) (prep H1 r)
 | none => prK (.agg l) (prep H r)
theorem prK_some (a : AV) (as0 : List AV) (H2 : Hp) : prK a (some (as0, H2)) = some (a :: as0, H2) := rfl
theorem prF_some (r : List AV) (x : IV) (H1 : Hp) : prF r (some (x, H1)) = prK (.i x) (prep H1 r) := rfl
theorem prG_some (l r : List AV) (xs : List IV) (H1 : Hp) : prG l r H (some (xs, H1)) = prK (.agg (ivs xs)) (prep H1 r) := rfl
theorem prG_none (l r : List AV) : prG l r H none = prK (.agg l) (prep H r) := rfl
theorem pr_nil : prep H [] = some ([], H) := rfl
theorem pr_i (x : IV) (r : List AV) : prep H (.i x :: r) = prK (.i x) (prep H r) := by simp only [prep]; cases prep H r <;> rfl
theorem pr_dead (r : List AV) : prep H (.dead :: r) = prK .dead (prep H r) := by simp only [prep]; cases prep H r <;> rfl
theorem pr_ptr (c g o n : Nat) (r : List AV) : prep H (.ptr c g o n :: r) = prK (.ptr c g o n) (prep H r) := by simp only [prep]; cases prep H r <;> rfl
theorem pr_clo (f : Fn) (a b : List AV) (r : List AV) : prep H (.clo f a b :: r) = prK (.clo f a b) (prep H r) := by simp only [prep]; cases prep H r <;> rfl
theorem pr_tup (l : List AV) (r : List AV) : prep H (.tup l :: r) = prK (.tup l) (prep H r) := by simp only [prep]; cases prep H r <;> rfl
theorem pr_ref (c g o n : Nat) (r : List AV) : prep H (.ref c g o n :: r) = prF r (freeze H (.ref c g o n)) := by
 simp only [prep, prF]
 cases freeze H (.ref c g o n) with
 | none => rfl
 | some p => simp only; cases prep p.2 r <;> rfl
theorem pr_agg (l : List AV) (r : List AV) : prep H (.agg l :: r) = prG l r H (freezeAll H l) := by
 simp only [prep, prG]
 cases freezeAll H l with
 | none => simp only; cases prep H r <;> rfl
 | some p => simp only; cases prep p.2 r <;> rfl
def fzK (c g o n : Nat) (H : Hp) : Option Chunk → Option (IV × Hp)
 | some (.sl sz g' rows ex) => if g = g' then some (.sl sz ((rows.drop o).take n) (ex && decide (o + n = rows.length)), H.set c (.fz sz g rows ex)) else none
 | some (.fz sz g' rows ex) => if g = g' then some (.sl sz ((rows.drop o).take n) (ex && decide (o + n = rows.length)), H) else none
 | _ => none
theorem fz_i (x : IV) : freeze H (.i x) = some (x, H) := rfl
theorem fz_ref (c g o n : Nat) : freeze H (.ref c g o n) = fzK c g o n H H[c]? := by
 simp only [freeze, fzK]
 cases H[c]? with
 | none => rfl
 | some x => cases x <;> rfl
theorem fz_ptr (c g o n : Nat) : freeze H (.ptr c g o n) = none := rfl
theorem fz_clo (f : Fn) (a b : List AV) : freeze H (.clo f a b) = none := rfl
theorem fzK_sl (c g o n sz g' : Nat) (rows : List (List IV)) (ex : Bool) : fzK c g o n H (some (.sl sz g' rows ex)) = if g = g' then some (.sl sz ((rows.drop o).take n) (ex && decide (o + n = rows.length)), H.set c (.fz sz g rows ex)) else none := rfl
theorem fzK_fz (c g o n sz g' : Nat) (rows : List (List IV)) (ex : Bool) : fzK c g o n H (some (.fz sz g' rows ex)) = if g = g' then some (.sl sz ((rows.drop o).take n) (ex && decide (o + n = rows.length)), H) else none := rfl
def faK (x : IV) : Option (List IV × Hp) → Option (List IV × Hp)
 | some (xs, H2) => some (x :: xs, H2)
 | none => none
def faF (r : List AV) : Option (IV × Hp) → Option (List IV × Hp)
 | some (x, H1) => faK x (freezeAll H1 r)
 | none => none
theorem faK_some (x : IV) (xs : List IV) (H2 : Hp) : faK x (some (xs, H2)) = some (x :: xs, H2) := rfl
theorem faK_none (x : IV) : faK x none = none := rfl
theorem faF_some (r : List AV) (x : IV) (H1 : Hp) : faF r (some (x, H1)) = faK x (freezeAll H1 r) := rfl
theorem faF_none (r : List AV) : faF r none = none := rfl
theorem fa_nil : freezeAll H [] = some ([], H) := rfl
theorem fa_cons (a : AV) (r : List AV) : freezeAll H (a :: r) = faF r (freeze H a) := by
 simp only [freezeAll, faF]
 cases freeze H a with
 | none => rfl
 | some p => simp only; cases freezeAll p.2 r <;> rfl
theorem fa_map : ∀ (l : List IV), freezeAll H (l.map .i) = some (l, H)
 | [] => rfl
 | a :: l => by simp only [List.map_cons, fa_cons, fz_i, faF_some, fa_map l, faK_some]
def pK (H : Hp) : Option AV → Option (AV × Hp)
 | some v => some (v, H)
 | none => none
theorem pK_some (v : AV) : pK H (some v) = some (v, H) := rfl
theorem map_pK (o : Option AV) : (o.map fun v => (v, H)) = pK H o := by cases o <;> rfl
theorem op_move (x : Operand) : evOp E cl (.move x) fr H = some (opd E fr x, H) := rfl
theorem op_assign (x : Operand) : evOp E cl (.assign x) fr H = some (opd E fr x, H) := rfl
def pickK (a b : AV) : AV → Option AV
 | .i (.v (.bool t)) => some (bif t then a else b)
 | _ => none
theorem op_pick (c a b : Operand) : evOp E cl (.pick c a b) fr H = pK H (pickK (opd E fr a) (opd E fr b) (opd E fr c)) := by
 rw [← map_pK]; simp only [evOp, heavy, evL, Bool.false_eq_true, if_false]
 congr 1
theorem op_load (t : TypeId) (a : Operand) : evOp E cl (.load t a) fr H = pK H (loadE E H t (opd E fr a)) := map_pK _
theorem op_bin (op : BinOp) (t u : TypeId) (x y : Operand) : evOp E cl (.binOp op t x y u) fr H = pK H (binE E.P op t (opd E fr x) (opd E fr y)) := map_pK _
theorem op_un (op : UnOp) (t : TypeId) (x : Operand) : evOp E cl (.unOp op t x) fr H = pK H (unE op (opd E fr x)) := map_pK _
theorem op_slice (t : TypeId) (x : Operand) (lo hi : Option Operand) : evOp E cl (.slice t x lo hi none) fr H = pK H (sliceE E H t (opd E fr x) (lo.map (opd E fr)) (hi.map (opd E fr)) none) := map_pK _
def s3K (k : AV → Hp → Option AV) : Option (IV × Hp) → Option (AV × Hp)
 | some (y, H1) => (k (.i y) H1).map fun v => (v, H1)
 | none => none
theorem s3K_some (k : AV → Hp → Option AV) (y : IV) (H1 : Hp) : s3K k (some (y, H1)) = pK H1 (k (.i y) H1) := by
 simp only [s3K, pK]; cases k (.i y) H1 <;> rfl
theorem op_slice3 (t : TypeId) (x : Operand) (lo hi : Option Operand) (m : Operand) : evOp E cl (.slice t x lo hi (some m)) fr H = s3K (fun y H1 => sliceE E H1 t y (lo.map (opd E fr)) (hi.map (opd E fr)) (some (opd E fr m))) (freeze H (opd E fr x)) := by
 simp only [evOp, heavy, Option.isSome_some, if_true, evH, s3K]
 split <;> simp_all
theorem op_index (t : TypeId) (x ix : Operand) : evOp E cl (.index t x ix) fr H = pK H (idxE E t (opd E fr x) (opd E fr ix)) := map_pK _
theorem op_indexAddr (t : TypeId) (x ix : Operand) : evOp E cl (.indexAddr t x ix) fr H = pK H (idxAddrE E H t (opd E fr x) (opd E fr ix)) := map_pK _
theorem op_field (t : TypeId) (x : Operand) (k : Nat) : evOp E cl (.field t x k) fr H = pK H (fieldE E t (opd E fr x) k) := map_pK _
theorem op_build (t : TypeId) (ps : Array (Nat × Operand)) : evOp E cl (.build t ps) fr H = pK H (buildE E t (ps.toList.map fun p => (p.1, opd E fr p.2))) := map_pK _
theorem op_makeFunc (fn : Fn) (first caps : Array Operand) : evOp E cl (.makeFunc fn first caps) fr H = some (.clo fn (first.toList.map (opd E fr)) (caps.toList.map (opd E fr)), H) := rfl
theorem op_light (o : Op) (h : heavy E o = false) (hn : ∀ f a t, o ≠ .call ⟨.value f, a, t⟩) : evOp E cl o fr H = pK H (evL E fr H o) := by
 rw [← map_pK]
 unfold evOp
 split
 ·exact absurd rfl (hn _ _ _)
 ·simp [h]
theorem op_heavy (o : Op) (h : heavy E o = true) (hn : ∀ f a t, o ≠ .call ⟨.value f, a, t⟩) : evOp E cl o fr H = evH E fr H o := by
 unfold evOp
 split
 ·exact absurd rfl (hn _ _ _)
 ·simp [h]
theorem op_nil (x : Operand) : evOp E cl (.nilCheck x) fr H = pK H (evL E fr H (.nilCheck x)) := map_pK _
theorem op_extract (x : Operand) (n : Nat) : evOp E cl (.extract x n) fr H = pK H (evL E fr H (.extract x n)) := map_pK _
theorem op_fieldAddr (s : TypeId) (x : Operand) (k : Nat) : evOp E cl (.fieldAddr s x k) fr H = pK H (evL E fr H (.fieldAddr s x k)) := map_pK _
theorem op_len (args : Array Operand) (tys : Array TypeId) : evOp E cl (.call ⟨.builtin .len, args, tys⟩) fr H = pK H (evL E fr H (.call ⟨.builtin .len, args, tys⟩)) := map_pK _
theorem op_max (args : Array Operand) (tys : Array TypeId) : evOp E cl (.call ⟨.builtin .max, args, tys⟩) fr H = pK H (foldE maxE (args.toList.map (opd E fr))) := map_pK _
theorem op_min (args : Array Operand) (tys : Array TypeId) : evOp E cl (.call ⟨.builtin .min, args, tys⟩) fr H = pK H (foldE minE (args.toList.map (opd E fr))) := map_pK _
theorem op_append (args : Array Operand) (tys : Array TypeId) : evOp E cl (.call ⟨.builtin .append, args, tys⟩) fr H = evH E fr H (.call ⟨.builtin .append, args, tys⟩) := rfl
theorem op_convert (s d : TypeId) (x : Operand) (h : slO E.P d = none) (hs : slO E.P s = none) : evOp E cl (.convert s d x) fr H = pK H (convE E s d (opd E fr x)) := by
 rw [op_light _ (by simp [heavy, h]) (by intro f a t e; cases e)]; simp only [evL, hs]
theorem op_convS (s d e : TypeId) (x : Operand) (h : slO E.P d = none) (hs : slO E.P s = some e) : evOp E cl (.convert s d x) fr H = pK H (convS E H e d (opd E fr x)) := by
 rw [op_light _ (by simp [heavy, h]) (by intro f a t e; cases e)]; simp only [evL, hs]
theorem op_range (t : TypeId) (x : Operand) : evOp E cl (.range t x) fr H = evH E fr H (.range t x) := rfl
theorem op_next (it : Operand) (b : Bool) : evOp E cl (.next it b) fr H = evH E fr H (.next it b) := rfl
theorem op_alloc (t : TypeId) : evOp E cl (.alloc t) fr H = evH E fr H (.alloc t) := rfl
theorem op_box (t : TypeId) (x : Operand) : evOp E cl (.box t x) fr H = evH E fr H (.box t x) := rfl
theorem op_buildSlice (t : TypeId) (n : Nat) (ps : Array (Nat × Operand)) : evOp E cl (.buildSlice t n ps) fr H = buildSliceE E H t n (ps.toList.map fun p => (p.1, opd E fr p.2)) := rfl
def stK : Option Hp → Option (AV × Hp)
 | some H' => some (.dead, H')
 | none => none
theorem stK_some (H' : Hp) : stK (some H') = some (.dead, H') := rfl
theorem op_store (t : TypeId) (a x : Operand) : evOp E cl (.store t a x) fr H = stK (storeE E H t (opd E fr a) (opd E fr x)) := by
 show (storeE E H t (opd E fr a) (opd E fr x)).map _ = _
 cases storeE E H t (opd E fr a) (opd E fr x) <;> rfl
theorem op_makeSlice (t : TypeId) (l c : Operand) : evOp E cl (.makeSlice t l c) fr H = makeSliceE E H t (opd E fr l) (opd E fr c) := rfl
def caK (E : Env) (cl : CallF) (H : Hp) (as0 : List AV) (g : Nat) : Bool → Option (AV × Hp)
 | true => callIso E cl g as0 H
 | false => none
theorem caK_t (as0 : List AV) (g : Nat) : caK E cl H as0 g true = callIso E cl g as0 H := rfl
def clK (E : Env) (cl : CallF) (H : Hp) (args : List AV) : AV → Option (AV × Hp)
 | .clo (.func g) first caps => caK E cl H (first ++ args ++ caps) g (enterOk E g)
 | _ => none
theorem clK_f (args : List AV) (g : Nat) (first caps : List AV) : clK E cl H args (.clo (.func g) first caps) = caK E cl H (first ++ args ++ caps) g (enterOk E g) := rfl
theorem op_call (x : Operand) (args : Array Operand) (tys : Array TypeId) : evOp E cl (.call ⟨.value x, args, tys⟩) fr H = clK E cl H (args.toList.map (opd E fr)) (opd E fr x) := by
 simp only [evOp, calleeE, clK]
 split
 ·rename_i g as0 hg
  split at hg
  ·rename_i g' first caps hx
   simp only [Option.some.injEq, Prod.mk.injEq] at hg
   obtain ⟨rfl, rfl⟩ := hg
   rw [hx]
   simp only [caK]
   cases enterOk E g' <;> simp
  ·cases hg
 ·rename_i hg
  split at hg
  ·cases hg
  ·rename_i hne
   split
   ·rename_i g first caps hx; exact absurd hx (hne _ _ _)
   ·rfl

theorem refs_ren (ρ : Nat → Option Nat) : (∀ a, refsA a = [] → renA ρ a = a) ∧ (∀ l, refsL l = [] → renL ρ l = l) := by
 refine ⟨fun a => ?_, fun l => ?_⟩
 ·induction a using AV.rec (motive_2 := fun l => refsL l = [] → renL ρ l = l) <;> (try intro h) <;> simp_all [refsA, refsL, renA, renL]
 ·induction l using AV.rec_1 (motive_1 := fun a => refsA a = [] → renA ρ a = a) <;> (try intro h) <;> simp_all [refsA, refsL, renA, renL]
def loops : Code → List Code
 | .seq a b => loops a ++ loops b
 | .cond _ a b => loops a ++ loops b
 | .block _ c => loops c
 | .scope c => loops c
 | .loop c => .loop c :: loops c
 | _ => []
def loopAt (fn : Func) (k : Nat) : Code := ((fn.body.map loops).getD []).getD k .skip
end
end Go.VI

set_option linter.unusedSimpArgs false
set_option linter.unusedVariables false
namespace Go.VI
open Go.WideShapes Go.ChangeShapes Go.RowKit
section
variable {Hh : Type} {enc : TypeId × Value → Hh} {P : Program} {W : World}

end
end Go.VI

set_option linter.unusedSimpArgs false
set_option linter.unusedVariables false
namespace Go.VI
open Go.WideShapes Go.ChangeShapes Go.RowKit

inductive Cty where
 | bool | int (k : IntKind) | str | sl (e : TypeId)
def ctys (P : Program) : Nat → TypeId → Option (List Cty)
 | 0, _ => none
 | d + 1, t => match P.underlying t with
  | some .bool => some [.bool]
  | some (.int k) => some [.int k]
  | some .string => some [.str]
  | some (.slice e) => match ctys P d e with
   | some (_ :: _) => some [.sl e]
   | _ => none
  | some (.array n e) => (ctys P d e).map fun l => (List.replicate n l).flatten
  | some (.struct fs) => (fs.toList.mapM fun f => ctys P d f.type).map List.flatten
  | _ => none

inductive Sh (P : Program) : Cty → IV → Prop
 | bool (b : Bool) : Sh P .bool (.v (.bool b))
 | int (k : IntKind) (n : Int) (h : (Lit.int k n).wf = true) : Sh P (.int k) (.v (.int k n))
 | str (l : List UInt8) (h : l.length ≤ maxLen) : Sh P .str (.str l)
 | sl (e : TypeId) (d : Nat) (cs : List Cty) (rows : List (List IV)) (hc : ctys P d e = some cs) (hl : rows.length ≤ maxLen)
   (h1 : ∀ (i : Nat) (r : List IV), rows[i]? = some r → r.length = cs.length)
   (h2 : ∀ (i : Nat) (r : List IV) (k : Nat) (c : Cty) (x : IV), rows[i]? = some r → cs[k]? = some c → r[k]? = some x → Sh P c x) : Sh P (.sl e) (.sl (P.cellsOf e) rows false)

def Gd (P : Program) (I : Imm) : List Value → List Cty → List IV → Prop
 | [], [], [] => True
 | v :: vs, c :: cs, a :: l => RelI I a v ∧ Sh P c a ∧ Gd P I vs cs l
 | _, _, _ => False
theorem Gd.append {P : Program} {I : Imm} : ∀ {vs cs l vs' cs' l'}, Gd P I vs cs l → Gd P I vs' cs' l' → Gd P I (vs ++ vs') (cs ++ cs') (l ++ l')
 | [], [], [], _, _, _, _, h' => h'
 | v :: vs, c :: cs, a :: l, _, _, _, h, h' => ⟨h.1, h.2.1, Gd.append h.2.2 h'⟩
 | [], _ :: _, _, _, _, _, h, _ => h.elim
 | [], [], _ :: _, _, _, _, h, _ => h.elim
 | _ :: _, [], _, _, _, _, h, _ => h.elim
 | _ :: _, _ :: _, [], _, _, _, h, _ => h.elim
theorem Gd.len {P : Program} {I : Imm} : ∀ {vs cs l}, Gd P I vs cs l → vs.length = l.length ∧ cs.length = l.length
 | [], [], [], _ => ⟨rfl, rfl⟩
 | v :: vs, c :: cs, a :: l, h => by have := Gd.len h.2.2; simp [this.1, this.2]
 | [], _ :: _, _, h => h.elim
 | [], [], _ :: _, h => h.elim
 | _ :: _, [], _, h => h.elim
 | _ :: _, _ :: _, [], h => h.elim
theorem Gd.at {P : Program} {I : Imm} : ∀ {vs cs l}, Gd P I vs cs l → ∀ (k : Nat) (a : IV), l[k]? = some a → ∃ v c, vs[k]? = some v ∧ cs[k]? = some c ∧ RelI I a v ∧ Sh P c a
 | [], [], [], _, k, a, ha => by simp at ha
 | v :: vs, c :: cs, b :: l, h, 0, a, ha => by simp at ha; subst ha; exact ⟨v, c, rfl, rfl, h.1, h.2.1⟩
 | v :: vs, c :: cs, b :: l, h, k + 1, a, ha => Gd.at h.2.2 k a (by simpa using ha)
 | [], _ :: _, _, h, _, _, _ => h.elim
 | [], [], _ :: _, h, _, _, _ => h.elim
 | _ :: _, [], _, h, _, _, _ => h.elim
 | _ :: _, _ :: _, [], h, _, _, _ => h.elim

theorem ctys_succ {P : Program} : ∀ (d : Nat) (t : TypeId) (l : List Cty), ctys P d t = some l → ctys P (d + 1) t = some l := by
 intro d
 induction d with
 | zero => intro t l h; cases h
 | succ d ih =>
  intro t l h
  rw [ctys] at h ⊢
  split at h
  ·exact h
  ·exact h
  ·exact h
  ·rename_i e _
   split at h
   ·rename_i c r hc
    rw [ih _ _ hc]; exact h
   ·cases h
  ·rename_i n e _
   cases hc : ctys P d e with
   | none => rw [hc] at h; cases h
   | some l' => rw [hc] at h; rw [ih _ _ hc]; exact h
  ·rename_i fs _
   cases hc : fs.toList.mapM (fun f => ctys P d f.type) with
   | none => rw [hc] at h; cases h
   | some l' =>
    rw [hc] at h
    rw [mapM_carry hc (fun f y _ _ hy => ih _ _ hy)]; exact h
  ·cases h
theorem ctys_le {P : Program} {d d' : Nat} (hd : d ≤ d') {t : TypeId} {l : List Cty} (h : ctys P d t = some l) : ctys P d' t = some l := by
 induction hd with
 | refl => exact h
 | step _ ih => exact ctys_succ _ _ _ ih
theorem ctys_det {P : Program} {d d' : Nat} {t : TypeId} {l l' : List Cty} (h : ctys P d t = some l) (h' : ctys P d' t = some l') : l = l' := by
 have h1 := ctys_le (Nat.le_max_left d d') h
 have h2 := ctys_le (Nat.le_max_right d d') h'
 exact Option.some.inj (h1.symm.trans h2)

section
variable {Hh : Type} {enc : TypeId × Value → Hh} {P : Program} {W : World} {sp : Nat → Bool} {held : Bool}

theorem trod_array {t e : TypeId} {m fuel : Nat} {cs : List Value} {x : DataW Hh × List MemPlace} (ht : P.underlying t = some (.array m e)) (h : DataW.trod enc P W 0 sp held fuel t cs = some x) :
  ∃ n, fuel = n + 1 ∧ cs.length = P.cellsOf t ∧ ∀ i, i < m → ∃ y, DataW.trod enc P W 0 sp held n e ((cs.drop (i * P.cellsOf e)).take (P.cellsOf e)) = some y := by
 cases fuel with
 | zero => simp [DataW.trod] at h
 | succ n =>
  unfold DataW.trod at h
  rw [ht] at h
  split at h <;> simp_all
  obtain ⟨hl, xs, hp, hd⟩ := h
  intro i hi
  have h1 := mapM_some_get hp i i (by simp [List.getElem?_range, hi])
  have h2 := mapM_some_length hp
  rw [List.length_range] at h2
  have h3 : i < xs.length := by omega
  rw [h1, List.getElem?_eq_getElem h3]
  exact ⟨xs[i].1, xs[i].2, rfl⟩

theorem cells_at {a : Addr} {n : Nat} {cs : List Value} (h : W.cells? 0 a n = some cs) : cs.length = n ∧ ∀ i, i < n → W.cell? (a.add i) = cs[i]? := by
 unfold World.cells? at h
 rw [if_pos (Nat.zero_le _)] at h
 have h2 := mapM_some_length h
 exact ⟨by simpa using h2, fun i hi => mapM_some_get h i i (by simp [hi])⟩

theorem read_fields {n : Nat} (rd : ∀ (d : Nat) (t : TypeId) (cs : List Value) (x : DataW Hh × List MemPlace) (cts : List Cty), t < P.types.size → ctys P d t = some cts → DataW.trod enc P W 0 sp held n t cs = some x → ∃ l, Gd P (imm0 W) cs cts l) (d : Nat) :
  ∀ (fl : List Field) (cl : List (List Cty)) (cs : List Value), fl.mapM (fun f => ctys P d f.type) = some cl → (∀ f ∈ fl, f.type < P.types.size) → cs.length = (fl.map fun f => P.cellsOf f.type).sum →
   (∀ (j : Nat) f, fl[j]? = some f → ∃ x, DataW.trod enc P W 0 sp held n f.type ((cs.drop ((fl.take j).map fun f => P.cellsOf f.type).sum).take (P.cellsOf f.type)) = some x) →
   ∃ l, Gd P (imm0 W) cs cl.flatten l := by
 intro fl
 induction fl with
 | nil =>
  intro cl cs h _ hlen _
  simp at h hlen
  subst h
  obtain rfl : cs = [] := hlen
  exact ⟨[], trivial⟩
 | cons f fl ih =>
  intro cl cs h hty hlen hx
  rw [List.mapM_cons] at h
  cases h1 : ctys P d f.type with
  | none => rw [h1] at h; cases h
  | some c1 =>
   cases h2 : fl.mapM (fun f => ctys P d f.type) with
   | none => rw [h1, h2] at h; cases h
   | some c2 =>
    rw [h1, h2] at h
    have h' : some (c1 :: c2) = some cl := h
    cases h'
    obtain ⟨x, hx0⟩ := hx 0 f rfl
    simp only [List.take_zero, List.map_nil, List.sum_nil, List.drop_zero] at hx0
    obtain ⟨l1, g1⟩ := rd d f.type _ x c1 (hty f (by simp)) h1 hx0
    simp only [List.map_cons, List.sum_cons] at hlen
    obtain ⟨l2, g2⟩ := ih c2 (cs.drop (P.cellsOf f.type)) h2 (fun g hg => hty g (by simp [hg])) (by rw [List.length_drop]; omega) (fun j g hg => by
     obtain ⟨y, hy⟩ := hx (j + 1) g (by simpa using hg)
     simp only [List.take_succ_cons, List.map_cons, List.sum_cons] at hy
     exact ⟨y, by rw [List.drop_drop]; exact hy⟩)
    refine ⟨l1 ++ l2, ?_⟩
    have := g1.append g2
    rw [List.take_append_drop] at this
    simpa using this

theorem read_array {n : Nat} {e : TypeId} {c1 : List Cty} (rd : ∀ (cs : List Value) (x : DataW Hh × List MemPlace), DataW.trod enc P W 0 sp held n e cs = some x → ∃ l, Gd P (imm0 W) cs c1 l) :
  ∀ (m : Nat) (cs : List Value), cs.length = m * P.cellsOf e → (∀ i, i < m → ∃ y, DataW.trod enc P W 0 sp held n e ((cs.drop (i * P.cellsOf e)).take (P.cellsOf e)) = some y) → ∃ l, Gd P (imm0 W) cs (List.replicate m c1).flatten l := by
 intro m
 induction m with
 | zero =>
  intro cs hlen _
  obtain rfl : cs = [] := by simpa using hlen
  exact ⟨[], trivial⟩
 | succ m ih =>
  intro cs hlen hx
  obtain ⟨x, hx0⟩ := hx 0 (by omega)
  simp only [Nat.zero_mul, List.drop_zero] at hx0
  obtain ⟨l1, g1⟩ := rd _ x hx0
  rw [Nat.succ_mul] at hlen
  obtain ⟨l2, g2⟩ := ih (cs.drop (P.cellsOf e)) (by rw [List.length_drop]; omega) (fun i hi => by
   obtain ⟨y, hy⟩ := hx (i + 1) (by omega)
   rw [Nat.succ_mul, Nat.add_comm] at hy
   exact ⟨y, by rw [List.drop_drop]; exact hy⟩)
  refine ⟨l1 ++ l2, ?_⟩
  have := g1.append g2
  rw [List.take_append_drop] at this
  simpa [List.replicate_succ] using this

theorem read_cells (hl : laidOutB P = true) : ∀ (n d : Nat) (t : TypeId) (cs : List Value) (x : DataW Hh × List MemPlace) (cts : List Cty), t < P.types.size → ctys P d t = some cts →
  DataW.trod enc P W 0 sp held n t cs = some x → ∃ l, Gd P (imm0 W) cs cts l := by
 intro n
 induction n with
 | zero => intro d t cs x cts _ _ h; simp [DataW.trod] at h
 | succ n ih =>
  intro d t cs x cts ht hc h
  cases d with
  | zero => cases hc
  | succ d =>
   rw [ctys] at hc
   split at hc
   ·rename_i hu
    cases hc
    obtain ⟨b, rfl, rfl⟩ := DataW.trod_bool hu h
    exact ⟨[.v (.bool b)], .v _ rfl, .bool b, trivial⟩
   ·rename_i k hu
    cases hc
    obtain ⟨z, rfl, rfl, hw⟩ := DataW.trod_int hu h
    exact ⟨[.v (.int k z)], .v _ rfl, .int k z hw, trivial⟩
   ·rename_i hu
    cases hc
    obtain ⟨s, rfl, rfl, hw⟩ := DataW.trod_string hu h
    exact ⟨[.str s.data.toList], .str _, .str _ (by simpa using hw), trivial⟩
   ·rename_i e hu
    split at hc
    ·rename_i c0 c1 he
     cases hc
     rcases DataW.trod_slice hu h with ⟨rfl, _⟩ | ⟨a, len, cap, elems, rest, n', hn, rfl, _, _, hlc, hm, hel, hat, _, _⟩
     ·exact ⟨[.sl (P.cellsOf e) [] false], .nil _ _ _ _ (fun h => by cases h), .sl e d _ [] he (Nat.zero_le _) (fun i r h => by simp at h) (fun i r k c x h => by simp at h), trivial⟩
     ·cases hn
      have he' : e < P.types.size := (kid_slice hl ht hu)
      have hex : ∀ i, ∃ l, i < len → ∃ cs', W.cells? 0 (a.add (i * P.cellsOf e)) (P.cellsOf e) = some cs' ∧ Gd P (imm0 W) cs' (c0 :: c1) l := by
       intro i
       by_cases hi : i < len
       ·have h1 := hat i hi
        have h2 : elems[i]? = some elems[i] := List.getElem?_eq_getElem (by omega)
        rw [h2, Option.bind_eq_some_iff] at h1
        obtain ⟨cs', h3, h4⟩ := h1
        obtain ⟨l, hg⟩ := ih d e cs' _ _ he' he h4
        exact ⟨l, fun _ => ⟨cs', h3, hg⟩⟩
       ·exact ⟨[], fun h => absurd h hi⟩
      obtain ⟨f, hf⟩ := Classical.skolem.1 hex
      have hrow : ∀ i r, ((List.range len).map f)[i]? = some r → i < len ∧ r = f i := by
       intro i r hr
       simp only [List.getElem?_map, Option.map_eq_some_iff, List.getElem?_range] at hr
       obtain ⟨j, hj, rfl⟩ := hr
       rw [List.getElem?_eq_some_iff] at hj
       obtain ⟨h1, h2⟩ := hj
       simp at h1 h2
       subst h2
       exact ⟨h1, rfl⟩
      have hsh : Sh P (.sl e) (.sl (P.cellsOf e) ((List.range len).map f) false) := by
       refine .sl e d _ _ he (by simp; omega) (fun i r hr => ?_) (fun i r k c y hr hc hy => ?_)
       ·obtain ⟨hi, rfl⟩ := hrow i r hr
        obtain ⟨cs', _, hg⟩ := hf i hi
        exact hg.len.2.symm
       ·obtain ⟨hi, rfl⟩ := hrow i r hr
        obtain ⟨cs', _, hg⟩ := hf i hi
        obtain ⟨v, c', _, h2, _, h4⟩ := hg.at k y hy
        rw [hc] at h2; cases h2; exact h4
      refine ⟨[.sl (P.cellsOf e) ((List.range len).map f) false], ?_, hsh, trivial⟩
      by_cases h0 : len = 0
      ·subst h0
       exact .nil _ _ _ cap (fun h => by cases h)
      ·obtain ⟨cs0, hc0, hg0⟩ := hf 0 (by omega)
       have hz : 0 < P.cellsOf e := by
        have := (cells_at hc0).1
        have h2 := hg0.len
        simp at h2
        omega
       have hcell := (cells_at hc0).2 0 hz
       have hlen0 := (cells_at hc0).1
       obtain ⟨b, off, spot⟩ := a
       have hne : cs0[0]? = some cs0[0] := List.getElem?_eq_getElem (by omega)
       rw [hne] at hcell
       unfold World.cell? at hcell
       split at hcell
       ·rename_i cs el fz hbk
        split at hcell
        ·cases hcell
        ·rename_i hsp
         have hspot : spot = none := by cases spot with | none => rfl | some _ => simp [Addr.add] at hsp
         subst hspot
         have ha : ∀ o i, Addr.add ⟨b, o, none⟩ i = ⟨b, o + i, none⟩ := by intro o i; unfold Addr.add; split <;> simp_all
         simp only [ha] at hbk
         have hcv : ∀ i, i < len → ∀ k, k < P.cellsOf e → ∀ cs', W.cells? 0 (Addr.add ⟨b, off, none⟩ (i * P.cellsOf e)) (P.cellsOf e) = some cs' → cs[off + i * P.cellsOf e + k]? = cs'[k]? := by
          intro i hi k hk cs' hc'
          have := (cells_at hc').2 k hk
          simp only [ha] at this
          unfold World.cell? at this
          simp only [hbk] at this
          simpa using this
         have key := RelI.sl (I := imm0 W) (P.cellsOf e) ((List.range len).map f) false b off cap cs el fz (fun i k => (cs[off + i * P.cellsOf e + k]?).getD undef) hbk (by simp; omega) (fun h => by cases h)
          (fun i r hr => by
           obtain ⟨hi, rfl⟩ := hrow i r hr
           obtain ⟨cs', h1, hg⟩ := hf i hi
           rw [← hg.len.1]; exact (cells_at h1).1)
          (fun i r k y hr hy => by
           obtain ⟨hi, rfl⟩ := hrow i r hr
           obtain ⟨cs', h1, hg⟩ := hf i hi
           obtain ⟨v, c', h2, _, _, _⟩ := hg.at k y hy
           have hk : k < P.cellsOf e := by rw [← (cells_at h1).1]; exact (List.getElem?_eq_some_iff.1 h2).1
           rw [hcv i hi k hk cs' h1, h2]; rfl)
          (fun i r k y hr hy => by
           obtain ⟨hi, rfl⟩ := hrow i r hr
           obtain ⟨cs', h1, hg⟩ := hf i hi
           obtain ⟨v, c', h2, _, h3, _⟩ := hg.at k y hy
           have hk : k < P.cellsOf e := by rw [← (cells_at h1).1]; exact (List.getElem?_eq_some_iff.1 h2).1
           rw [hcv i hi k hk cs' h1, h2]; exact h3)
         have hl' : ((List.range len).map f).length = len := by simp
         rw [hl'] at key
         exact key
       ·cases hcell
    ·cases hc
   ·rename_i m e hu
    cases hc1 : ctys P d e with
    | none => rw [hc1] at hc; cases hc
    | some c1 =>
     rw [hc1] at hc
     have hc' : some (List.replicate m c1).flatten = some cts := hc
     cases hc'
     obtain ⟨n', hn, hlen, hx⟩ := trod_array hu h
     cases hn
     obtain ⟨k1, k2⟩ := kid_array hl ht hu
     exact read_array (fun cs x hx => ih d e cs x c1 k1 hc1 hx) m cs (by rw [hlen, k2]) hx
   ·rename_i fs hu
    cases hc1 : fs.toList.mapM (fun f => ctys P d f.type) with
    | none => rw [hc1] at hc; cases hc
    | some c1 =>
     rw [hc1] at hc
     have hc' : some c1.flatten = some cts := hc
     cases hc'
     obtain ⟨xs, n', hn, _, hlen, hxl, hx⟩ := DataW.trod_struct hu h
     cases hn
     obtain ⟨k1, k2, k3⟩ := kid_struct hl ht hu
     refine read_fields (fun d t cs x cts => ih d t cs x cts) d fs.toList c1 cs hc1 k1 (by rw [hlen, k2]) (fun j f hf => ?_)
     have h1 := hx j f (by simpa using hf)
     have hj : j < xs.length := by
      have := (List.getElem?_eq_some_iff.1 hf).1
      simp at this; omega
     rw [k3 j f hf, List.getElem?_eq_getElem hj] at h1
     exact ⟨_, h1⟩
   ·cases hc

theorem relA_row {I : Imm} {η : Eta} {H : Hp} {cs : Array Value} {cts : List Cty} {l : List IV} (h : Gd P I cs.toList cts l) : RelA I η H (.agg (l.map .i)) (.agg cs) := by
 have hl := h.len.1
 refine .agg _ cs (by simpa using hl) (fun k a ha => ?_)
 simp only [List.getElem?_map, Option.map_eq_some_iff] at ha
 obtain ⟨x, hx, rfl⟩ := ha
 obtain ⟨v, c, h1, _, h3, _⟩ := h.at k x hx
 have : cs[k]? = some v := by simpa using h1
 rw [Array.getD_eq_getD_getElem?, this]
 exact .i _ _ h3
theorem read_arg (hl : laidOutB P = true) {t : TypeId} {v : Value} {d : DataW Hh} {ps : List MemPlace} {cts : List Cty} (D : Nat) (ht : t < P.types.size) (hc : ctys P D t = some cts)
  (hd : DataW.Trod enc P W 0 sp held t v d ps) : ∃ l, Gd P (imm0 W) v.cells.toList cts l := by
 obtain ⟨n, hn⟩ := hd
 exact read_cells hl n D t _ _ _ ht hc hn
theorem stays (hl : laidOutB P = true) {t : TypeId} {v : Value} {d : DataW Hh} {ps : List MemPlace} {W' : World} (hr : P.readableRec t = true) (ht : t < P.types.size)
  (hd : DataW.Trod enc P W 0 (fun _ => true) true t v d ps) (ho : Old W W') (hps : ∀ p ∈ ps, p.block < W.heap.size) (sp' : Nat → Bool) (hs : ∀ p ∈ ps, sp' p.block = true) : DataW.Trod enc P W' 0 sp' true t v d ps :=
 WideElems.Trod_stays hl hr ht hd (fun p hp => by
  have := ho.heap _ (hps p hp)
  cases p with
  | cell b off => simp only [World.sameAt, World.cell?, MemPlace.block] at this ⊢; rw [this]
  | map b => exact this) hs

def ShL (P : Program) : List Cty → List IV → Prop
 | [], [] => True
 | c :: cs, a :: l => Sh P c a ∧ ShL P cs l
 | _, _ => False
theorem Gd.sh {P : Program} {I : Imm} : ∀ {vs cs l}, Gd P I vs cs l → ShL P cs l
 | [], [], [], _ => trivial
 | v :: vs, c :: cs, a :: l, h => ⟨h.2.1, Gd.sh h.2.2⟩
 | [], _ :: _, _, h => h.elim
 | [], [], _ :: _, h => h.elim
 | _ :: _, [], _, h => h.elim
 | _ :: _, _ :: _, [], h => h.elim
theorem ShL.nil {l : List IV} (h : ShL P [] l) : l = [] := by cases l with | nil => rfl | cons a l => exact h.elim
theorem ShL.cons {c : Cty} {cs : List Cty} {l : List IV} (h : ShL P (c :: cs) l) : ∃ a l', l = a :: l' ∧ Sh P c a ∧ ShL P cs l' := by
 cases l with | nil => exact h.elim | cons a l => exact ⟨a, l, rfl, h.1, h.2⟩
theorem Sh.of_bool {a : IV} (h : Sh P .bool a) : ∃ b, a = .v (.bool b) := by cases h; exact ⟨_, rfl⟩
theorem Sh.of_int {a : IV} {k : IntKind} (h : Sh P (.int k) a) : ∃ n, a = .v (.int k n) ∧ (Lit.int k n).wf = true := by cases h; exact ⟨_, rfl, by assumption⟩
theorem Sh.of_str {a : IV} (h : Sh P .str a) : ∃ s, a = .str s ∧ s.length ≤ maxLen := by cases h; exact ⟨_, rfl, by assumption⟩
theorem shL_at : ∀ {cs : List Cty} {l : List IV}, l.length = cs.length → (∀ (k : Nat) (c : Cty) (x : IV), cs[k]? = some c → l[k]? = some x → Sh P c x) → ShL P cs l
 | [], [], _, _ => trivial
 | c :: cs, a :: l, hl, h => ⟨h 0 c a rfl rfl, shL_at (by simpa using hl) fun k c x hc hx => h (k + 1) c x (by simpa using hc) (by simpa using hx)⟩
 | [], _ :: _, hl, _ => by simp at hl
 | _ :: _, [], hl, _ => by simp at hl
theorem Sh.of_sl {a : IV} {e : TypeId} (h : Sh P (.sl e) a) {D : Nat} {cs : List Cty} (hc : ctys P D e = some cs) : ∃ rows, a = .sl (P.cellsOf e) rows false ∧ rows.length ≤ maxLen ∧ ∀ r ∈ rows, ShL P cs r := by
 cases h with
 | sl e d cs' rows hc' hl h1 h2 =>
  cases ctys_det hc hc'
  refine ⟨rows, rfl, hl, fun r hr => ?_⟩
  obtain ⟨i, hi⟩ := List.getElem?_of_mem hr
  exact shL_at (h1 i r hi) fun k c x hc hx => h2 i r k c x hi hc hx
theorem ShL.bool {cs : List Cty} {l : List IV} (h : ShL P (.bool :: cs) l) : ∃ b l', l = .v (.bool b) :: l' ∧ ShL P cs l' := by
 obtain ⟨a, l', rfl, h1, h2⟩ := h.cons
 obtain ⟨b, rfl⟩ := h1.of_bool
 exact ⟨b, l', rfl, h2⟩
theorem ShL.int {k : IntKind} {cs : List Cty} {l : List IV} (h : ShL P (.int k :: cs) l) : ∃ n l', l = .v (.int k n) :: l' ∧ (Lit.int k n).wf = true ∧ ShL P cs l' := by
 obtain ⟨a, l', rfl, h1, h2⟩ := h.cons
 obtain ⟨n, rfl, hn⟩ := h1.of_int
 exact ⟨n, l', rfl, hn, h2⟩
theorem ShL.str {cs : List Cty} {l : List IV} (h : ShL P (.str :: cs) l) : ∃ s l', l = .str s :: l' ∧ s.length ≤ maxLen ∧ ShL P cs l' := by
 obtain ⟨a, l', rfl, h1, h2⟩ := h.cons
 obtain ⟨s, rfl, hn⟩ := h1.of_str
 exact ⟨s, l', rfl, hn, h2⟩
theorem ShL.sl {e : TypeId} {cs : List Cty} {l : List IV} (h : ShL P (.sl e :: cs) l) {D : Nat} {cs' : List Cty} (hc : ctys P D e = some cs') :
  ∃ rows l', l = .sl (P.cellsOf e) rows false :: l' ∧ rows.length ≤ maxLen ∧ (∀ r ∈ rows, ShL P cs' r) ∧ ShL P cs l' := by
 obtain ⟨a, l', rfl, h1, h2⟩ := h.cons
 obtain ⟨rows, rfl, hn, hr⟩ := h1.of_sl hc
 exact ⟨rows, l', rfl, hn, hr, h2⟩
theorem rows_map {α : Type} (f : α → List IV) (p : α → Prop) : ∀ {rows : List (List IV)}, (∀ r ∈ rows, ∃ a, r = f a ∧ p a) → ∃ l : List α, rows = l.map f ∧ ∀ a ∈ l, p a
 | [], _ => ⟨[], rfl, fun a h => by simp at h⟩
 | r :: rows, h => by
  obtain ⟨a, rfl, ha⟩ := h r (by simp)
  obtain ⟨l, rfl, hl⟩ := rows_map f p (rows := rows) fun r hr => h r (by simp [hr])
  exact ⟨a :: l, rfl, by simpa using ⟨ha, hl⟩⟩

variable {r : Reach} {b0 : Nat} {t : TypeId} {v : Value} {d : DataW Hh} {ps : List MemPlace}
theorem read_int {k : IntKind} (hu : P.underlying t = some (.int k)) (hval : Value.okWide P W r b0 t v) (hd : DataW.Trod enc P W 0 sp held t v d ps) :
  ∃ n, RelA (imm0 W) eta0 [] (.i (.v (.int k n))) v ∧ (Lit.int k n).wf = true := by
 obtain ⟨n, rfl, _, _, hw⟩ := open_int hu hval hd
 exact ⟨n, .i _ _ (.v _ rfl), hw⟩
theorem read_sl (hl : laidOutB P = true) {e : TypeId} {D : Nat} {cs : List Cty} (ht : t < P.types.size) (hu : P.underlying t = some (.slice e)) (hc : ctys P D e = some cs) (hct : ctys P (D + 1) t = some [.sl e]) (hval : Value.okWide P W r b0 t v) (hd : DataW.Trod enc P W 0 sp held t v d ps) :
  ∃ rows, RelA (imm0 W) eta0 [] (.i (.sl (P.cellsOf e) rows false)) v ∧ rows.length ≤ maxLen ∧ ∀ r ∈ rows, ShL P cs r := by
 obtain ⟨l, hg⟩ := read_arg hl (D + 1) ht hct hd
 obtain ⟨a, len, cap, rfl⟩ := okWide_slice hu hval
 obtain ⟨rows, l', rfl, h1, h2, h3⟩ := hg.sh.sl hc
 have := hg.1
 exact ⟨rows, .i _ _ this, h1, h2⟩
theorem read_agg (hl : laidOutB P = true) {D : Nat} {cs : List Cty} (ht : t < P.types.size) (hu : (P.underlying t).map (fun | .struct _ => true | .array _ _ => true | _ => false) = some true) (hc : ctys P D t = some cs) (hval : Value.okWide P W r b0 t v) (hd : DataW.Trod enc P W 0 sp held t v d ps) :
  ∃ l : List IV, RelA (imm0 W) eta0 [] (.agg (l.map .i)) v ∧ ShL P cs l := by
 obtain ⟨l, hg⟩ := read_arg hl D ht hc hd
 have hv : ∃ cs, v = .agg cs := by
  unfold Value.okWide at hval
  split at hval
  ·obtain ⟨cs, h, _⟩ := hval; exact ⟨cs, h⟩
  ·obtain ⟨cs, h, _⟩ := hval; exact ⟨cs, h⟩
  ·rename_i h1 h2
   cases hh : P.underlying t with
   | none => rw [hh] at hu; cases hu
   | some x =>
    rw [hh] at hu
    cases x <;> simp at hu
    ·exact absurd hh (h2 _ _)
    ·exact absurd hh (h1 _)
 obtain ⟨vs, rfl⟩ := hv
 exact ⟨l, relA_row hg, hg.sh⟩
end

def dlen {Hh : Type} : DataW Hh → Nat
 | .slice a b => a.length + b.length
 | _ => 0
section
variable {Hh : Type} {enc : TypeId × Value → Hh} {P : Program} {W : World} {sp : Nat → Bool} {held : Bool}
theorem sl_dlen {t e : TypeId} {v : Value} {d : DataW Hh} {ps : List MemPlace} {I : Imm} {η : Eta} {H : Hp} {z : Nat} {rows : List (List IV)} {ex : Bool} (hu : P.underlying t = some (.slice e)) (hd : DataW.Trod enc P W 0 sp held t v d ps)
  (hr : RelA I η H (.i (.sl z rows ex)) v) : rows.length ≤ dlen d := by
 obtain ⟨n, hn⟩ := hd
 cases hr with
 | i x v h =>
  rcases DataW.trod_slice hu hn with ⟨hv, hx⟩ | ⟨a, len, cap, elems, rest, n', _, hv, hx, _, _, _, hel, _⟩
  ·cases h with
   | nil => exact Nat.zero_le _
   | sl sz rows ex b off cap cs elem fz cv hI hc hx' hr' h1 h2 => simp [Value.cells] at hv
  ·cases h with
   | nil => exact Nat.zero_le _
   | sl sz rows ex b off cap' cs elem fz cv hI hc hx' hr' h1 h2 =>
    simp [Value.cells] at hv
    simp only [Prod.mk.injEq] at hx
    rw [hx.1]
    simp only [dlen, List.length_map]
    omega
theorem weight_at {t e : TypeId} : ∀ {ts : List TypeId} {ds : List (DataW Hh)} (j : Nat) {d : DataW Hh}, (DataW.weightsEach P ts ds).all (· ≤ reachBytes) = true → ts[j]? = some t → ds[j]? = some d → P.underlying t = some (.slice e) → dlen d * P.bytesOf e ≤ reachBytes
 | [], _, j, d, _, ht, _, _ => by simp at ht
 | _ :: _, [], j, d, _, _, hd, _ => by simp at hd
 | t' :: ts, d' :: ds, 0, d, h, ht, hd, hu => by
  simp at ht hd
  subst ht; subst hd
  simp only [DataW.weightsEach, List.all_append, Bool.and_eq_true] at h
  cases d' with
  | slice a b =>
   have h1 := h.1
   simp only [DataW.weights, hu, List.all_cons, Bool.and_eq_true, decide_eq_true_eq] at h1
   exact h1.1
  | _ => simp [dlen]
 | t' :: ts, d' :: ds, j + 1, d, h, ht, hd, hu => by
  simp only [DataW.weightsEach, List.all_append, Bool.and_eq_true] at h
  exact weight_at j h.2 (by simpa using ht) (by simpa using hd) hu
end

theorem rng_i64 {n : Int} (h : (Lit.int .i64 n).wf = true) : -9223372036854775808 ≤ n ∧ n ≤ 9223372036854775807 := by
 simp only [Lit.wf, Bool.and_eq_true, IntKind.min, IntKind.max, IntKind.signed, IntKind.bits] at h
 simp at h
 omega
end Go.VI

set_option linter.unusedSimpArgs false
set_option linter.unusedVariables false
namespace Go.VI
section
variable {E : Env} {cl : CallF} {H : Hp}

def isoK (E : Env) (cl : CallF) (f : FuncId) (args1 : List AV) (H1 : Hp) : Option (AV × Hp) :=
  let R := reach H1 64 (refsL args1) []
  let into := posIn R
  match exCl E cl f (renL into args1) (R.map fun c => ((H1[c]?).map (Chunk.ren into)).getD (.iter [] 0)) with
  | none => none
  | some (r, L) => if L.length < R.length then none else
   let K := (reach L 64 (refsA r ++ (L.take R.length).flatMap Chunk.refs) []).filter fun i => decide (R.length ≤ i)
   let back := backRen R H1.length K
   some (renA back r, setAll H1 R ((L.take R.length).map (Chunk.ren back)) ++ K.map fun i => ((L[i]?).map (Chunk.ren back)).getD (.iter [] 0))
def prepK (E : Env) (cl : CallF) (f : FuncId) : Option (List AV × Hp) → Option (AV × Hp)
 | some (as0, H1) => isoK E cl f as0 H1
 | none => none
theorem prepK_some (f : FuncId) (as0 : List AV) (H1 : Hp) : prepK E cl f (some (as0, H1)) = isoK E cl f as0 H1 := rfl
theorem iso_prep {f : FuncId} (args : List AV) : callIso E cl f args H = prepK E cl f (prepE E f H args) := by
 unfold callIso
 cases prepE E f H args with
 | none => rfl
 | some x => rfl
theorem isoK_val {g : Nat} {as0 : List AV} {r : AV} (he : E.ext g = none) (hr : refsL as0 = []) (hrr : refsA r = []) (hc : ∃ L, cl g as0 [] = some (r, L)) : isoK E cl g as0 H = some (r, H) := by
 obtain ⟨L, hc⟩ := hc
 have h1 := (refs_ren (posIn [])).2 as0 hr
 have h2 : ∀ ρ, renA ρ r = r := fun ρ => (refs_ren ρ).1 r hrr
 unfold isoK
 simp [exCl, he, hr, reach, h1, hc, hrr, h2, setAll]
theorem isoK_cl {f : FuncId} {h : List AV → List Chunk → Option (AV × List Chunk)} (he : E.ext f = some h) (as0 : List AV) : isoK E cl f as0 H = isoK { E with ext := fun _ => none } (fun _ => h) f as0 H := by
 unfold isoK exCl
 rw [he]
def isoF (H : Hp) (R : List Nat) (r : AV) (L : Hp) (K : List Nat) : Option (AV × Hp) :=
 some (renA (backRen R H.length K) r, setAll H R ((L.take R.length).map (Chunk.ren (backRen R H.length K))) ++ K.map fun i => ((L[i]?).map (Chunk.ren (backRen R H.length K))).getD (.iter [] 0))
def isoB (H : Hp) (R : List Nat) : Option (AV × Hp) → Option (AV × Hp)
 | none => none
 | some (r, L) => if L.length < R.length then none else isoF H R r L ((reach L 64 (refsA r ++ (L.take R.length).flatMap Chunk.refs) []).filter fun i => decide (R.length ≤ i))
def isoL (E : Env) (cl : CallF) (f : FuncId) (as0 : List AV) (H : Hp) (R : List Nat) : Option (AV × Hp) := isoB H R (cl f (renL (posIn R) as0) (R.map fun c => ((H[c]?).map (Chunk.ren (posIn R))).getD (.iter [] 0)))
theorem isoK_R {f : FuncId} (he : E.ext f = none) (as0 : List AV) : isoK E cl f as0 H = isoL E cl f as0 H (reach H 64 (refsL as0) []) := by
 unfold isoK isoL isoB
 simp only [exCl, he]
 generalize cl f _ _ = q
 cases q <;> rfl
theorem isoB_some (R : List Nat) (r : AV) (L : Hp) : isoB H R (some (r, L)) = if L.length < R.length then none else isoF H R r L ((reach L 64 (refsA r ++ (L.take R.length).flatMap Chunk.refs) []).filter fun i => decide (R.length ≤ i)) := rfl
theorem reach_one {L : Hp} {c : Nat} {x : Chunk} (h : L[c]? = some x) (hx : x.refs = []) : reach L 64 [c] [] = [c] := by
 have hl : ¬ L.length ≤ c := by
  have := (List.getElem?_eq_some_iff.1 h).1
  omega
 simp [reach, h, hx, hl]
end

def appT (E : Env) (t t2 : TypeId) : Option Nat :=
 match slO E.P t with
 | some e => match szO E.P e, bytesO E.P e, zeroO E.P e with
  | some z, some b, some zv => if 0 < z ∧ b ≤ 65536 ∧ ((slO E.P t2).isSome = true ∨ isStrO E.P t2 = true) ∧ (cellsA zv).length = z ∧ (cellsA zv).all one = true then some z else none
  | _, _, _ => none
 | none => none
def apC (z : Nat) (H : Hp) (c g off len : Nat) (new : List (List IV)) : Option Chunk → Option (AV × Hp)
 | some (.sl sz g' rows ex) => if g = g' ∧ off = 0 ∧ sz = z ∧ len + new.length < 1073741824 then
   some (.ref c (g + 1) 0 (len + new.length), H.set c (.sl z (g + 1) (rows.take len ++ new) (ex && rows.isEmpty && new.isEmpty))) else none
 | some (.fz sz g' rows ex) => if g = g' ∧ off = 0 ∧ sz = z ∧ ex = true ∧ len = rows.length ∧ new ≠ [] ∧ len + new.length < 1073741824 then
   some (.ref H.length 0 0 (len + new.length), H ++ [.sl z 0 (rows ++ new) false]) else none
 | _ => none
def apV (z : Nat) (H : Hp) (new : List (List IV)) : AV → Option (AV × Hp)
 | .i (.sl sz rows ex) => if ex = true ∧ (rows = [] ∨ (sz = z ∧ new ≠ [])) ∧ rows.length + new.length < 1073741824 then
   some (.ref H.length 0 0 (rows.length + new.length), H ++ [.sl z 0 (rows ++ new) (rows.isEmpty && new.isEmpty)]) else none
 | .ref c g off len => apC z H c g off len new H[c]?
 | _ => none
def apS (z : Nat) (H : Hp) (s : AV) : Option (Nat × List (List IV) × Bool) → Option (AV × Hp)
 | some (z', new, _) => if new = [] ∨ z' = z then apV z H new s else none
 | none => none
theorem ap_eq {E : Env} {t t2 z : Nat} (h : appT E t t2 = some z) (H : Hp) (s x : AV) : appendE E H t t2 s x = apS z H s (srcE H x) := by
 unfold appT at h
 split at h
 ·rename_i e he
  split at h
  ·rename_i z1 b zv h1 h2 h3
   split at h
   ·rename_i hc
    cases h
    unfold appendE
    rw [he]
    simp only [h1, h2, h3]
    cases hx : srcE H x with
    | none => rfl
    | some y =>
     obtain ⟨z', new, exx⟩ := y
     simp only [apS]
     by_cases hn : new = [] ∨ z' = z
     ·rw [if_pos hn, if_pos ⟨hn, hc⟩]
      cases s with
      | i x => cases x <;> rfl
      | ref c g off len =>
       simp only [apV]
       cases H[c]? with
       | none => rfl
       | some ch => cases ch <;> rfl
      | _ => rfl
     ·rw [if_neg hn, if_neg (fun h => hn h.1)]
   ·cases h
  ·cases h
 ·cases h
def bsT (E : Env) (t : TypeId) : Option (Nat × List AV × List (Option Nat)) :=
 match slO E.P t with
 | some e => match szO E.P e, zeroO E.P e with
  | some z, some zero => if (cellsA zero).length = z ∧ 0 < z ∧ (cellsA zero).all one = true then some (z, cellsA zero, E.kinds e) else none
  | _, _ => none
 | none => none
def bsG (ks : List (Option Nat)) (z n : Nat) : Option (List IV × Hp) → Option (AV × Hp)
 | some (xs, H1) => some (.ref H1.length 0 0 n, H1 ++ [.sl z 0 (chop z n (canR (List.replicate n ks).flatten xs)) true])
 | none => none
def bsF (ks : List (Option Nat)) (z n : Nat) (H : Hp) : Option (List AV) → Option (AV × Hp)
 | some cells => bsG ks z n (freezeAll H cells)
 | none => none
theorem bs_eq {E : Env} {t z : Nat} {zc : List AV} {ks : List (Option Nat)} (h : bsT E t = some (z, zc, ks)) (H : Hp) (n : Nat) (hn : n * z ≤ 16777216) (parts : List (Nat × AV)) :
  buildSliceE E H t n parts = bsF ks z n H (fillA z (List.replicate n zc).flatten parts) := by
 unfold bsT at h
 split at h
 ·rename_i e he
  split at h
  ·rename_i z1 zero h1 h2
   split at h
   ·rename_i hc
    cases h
    unfold buildSliceE
    rw [he]
    simp only [h1, h2]
    rw [if_pos ⟨hn, hc⟩]
    cases fillA z (List.replicate n (cellsA zero)).flatten parts with
    | none => rfl
    | some cells =>
     simp only [bsF]
     cases freezeAll H cells with
     | none => rfl
     | some y => rfl
   ·cases h
  ·cases h
 ·cases h
def brK : Option (List AV) → List Nat
 | some c => refsL c
 | none => []
theorem brK_some (c : List AV) : brK (some c) = refsL c := rfl
theorem br_eq {E : Env} {t z : Nat} {zc : List AV} {ks : List (Option Nat)} (h : bsT E t = some (z, zc, ks)) (n : Nat) (parts : List (Nat × AV)) :
  buildRefs E t n parts = brK (fillA z (List.replicate n zc).flatten parts) := by
 unfold bsT at h
 split at h
 ·rename_i e he
  split at h
  ·rename_i z1 zero h1 h2
   split at h
   ·rename_i hc
    cases h
    unfold buildRefs brK
    rw [he]
    simp only [h1, h2]
    cases fillA z (List.replicate n (cellsA zero)).flatten parts <;> rfl
   ·cases h
  ·cases h
 ·cases h
theorem bsF_some (ks : List (Option Nat)) (z n : Nat) (H : Hp) (cells : List AV) : bsF ks z n H (some cells) = bsG ks z n (freezeAll H cells) := rfl
theorem bsG_some (ks : List (Option Nat)) (z n : Nat) (xs : List IV) (H1 : Hp) : bsG ks z n (some (xs, H1)) = some (.ref H1.length 0 0 n, H1 ++ [.sl z 0 (chop z n (canR (List.replicate n ks).flatten xs)) true]) := rfl
theorem apS_some (z z' : Nat) (H : Hp) (s : AV) (new : List (List IV)) (e : Bool) : apS z H s (some (z', new, e)) = if new = [] ∨ z' = z then apV z H new s else none := rfl
theorem apV_ref (z : Nat) (H : Hp) (new : List (List IV)) (c g off len : Nat) : apV z H new (.ref c g off len) = apC z H c g off len new H[c]? := rfl
theorem apV_i (z : Nat) (H : Hp) (new : List (List IV)) (sz : Nat) (rows : List (List IV)) (ex : Bool) : apV z H new (.i (.sl sz rows ex)) = if ex = true ∧ (rows = [] ∨ (sz = z ∧ new ≠ [])) ∧ rows.length + new.length < 1073741824 then
   some (.ref H.length 0 0 (rows.length + new.length), H ++ [.sl z 0 (rows ++ new) (rows.isEmpty && new.isEmpty)]) else none := rfl
theorem apC_sl (z : Nat) (H : Hp) (c g off len : Nat) (new : List (List IV)) (sz g' : Nat) (rows : List (List IV)) (ex : Bool) : apC z H c g off len new (some (.sl sz g' rows ex)) = if g = g' ∧ off = 0 ∧ sz = z ∧ len + new.length < 1073741824 then
   some (.ref c (g + 1) 0 (len + new.length), H.set c (.sl z (g + 1) (rows.take len ++ new) (ex && rows.isEmpty && new.isEmpty))) else none := rfl
theorem apC_fz (z : Nat) (H : Hp) (c g off len : Nat) (new : List (List IV)) (sz g' : Nat) (rows : List (List IV)) (ex : Bool) : apC z H c g off len new (some (.fz sz g' rows ex)) = if g = g' ∧ off = 0 ∧ sz = z ∧ ex = true ∧ len = rows.length ∧ new ≠ [] ∧ len + new.length < 1073741824 then
   some (.ref H.length 0 0 (len + new.length), H ++ [.sl z 0 (rows ++ new) false]) else none := rfl
theorem src_str (H : Hp) (l : List UInt8) : srcE H (.i (.str l)) = some (1, l.map fun b => [IV.v (.int .u8 b.toNat)], true) := rfl
theorem src_sl (H : Hp) (sz : Nat) (rows : List (List IV)) (ex : Bool) : srcE H (.i (.sl sz rows ex)) = some (sz, rows, ex) := rfl
def rsC (g off len : Nat) : Option Chunk → Option (Nat × List (List IV) × Bool)
 | some (.sl sz g' rows ex) => if g = g' then some (sz, (rows.drop off).take len, ex && decide (off + len = rows.length)) else none
 | some (.fz sz g' rows ex) => if g = g' then some (sz, (rows.drop off).take len, ex && decide (off + len = rows.length)) else none
 | _ => none
theorem src_ref (H : Hp) (c g off len : Nat) : srcE H (.ref c g off len) = rsC g off len H[c]? := by
 simp only [srcE, rowsE]
 cases H[c]? with
 | none => rfl
 | some x => cases x <;> rfl
theorem rsC_sl (g off len sz g' : Nat) (rows : List (List IV)) (ex : Bool) : rsC g off len (some (.sl sz g' rows ex)) = if g = g' then some (sz, (rows.drop off).take len, ex && decide (off + len = rows.length)) else none := rfl
theorem rsC_fz (g off len sz g' : Nat) (rows : List (List IV)) (ex : Bool) : rsC g off len (some (.fz sz g' rows ex)) = if g = g' then some (sz, (rows.drop off).take len, ex && decide (off + len = rows.length)) else none := rfl
def consK : Option AV → Option (List AV) → Option (List AV)
 | some a, some as0 => some (a :: as0)
 | _, _ => none
def tupK : Option (List AV) → Option AV
 | some [a] => some a
 | some as0 => some (.tup as0)
 | none => none
theorem consK_some (a : AV) (as0 : List AV) : consK (some a) (some as0) = some (a :: as0) := rfl
theorem tupK_0 : tupK (some []) = some (.tup []) := rfl
theorem tupK_1 (a : AV) : tupK (some [a]) = some a := rfl
theorem tupK_2 (a b : AV) (l : List AV) : tupK (some (a :: b :: l)) = some (.tup (a :: b :: l)) := rfl
section
variable {E : Env} {fr : Fr} {H : Hp}
theorem resE_eq (l : List ResultVar) : resE E fr H l = tupK (resEs E fr H l) := by
 unfold resE
 cases resEs E fr H l with
 | none => rfl
 | some as0 => cases as0 with
  | nil => rfl
  | cons a as0 => cases as0 <;> rfl
theorem resEs_nil : resEs E fr H [] = some [] := rfl
theorem resEs_cons (r : ResultVar) (l : List ResultVar) : resEs E fr H (r :: l) = consK (resE1 E fr H r) (resEs E fr H l) := by
 simp only [resEs]
 cases resE1 E fr H r <;> cases resEs E fr H l <;> rfl
theorem resE1_t (t : Nat) : resE1 E fr H (.tmp t) = some (get t fr) := rfl
theorem resE1_c (a t : Nat) : resE1 E fr H (.cell a t) = loadE E H t (get a fr) := rfl
end

def msT (E : Env) (t : TypeId) : Option (Nat × List IV) :=
 match slO E.P t with
 | some e => match szO E.P e, zeroRow E e, bytesO E.P e with
  | some z, some row, some b => if row.length = z ∧ 0 < z ∧ b ≤ 65536 then some (z, canR (E.kinds e) row) else none
  | _, _, _ => none
 | none => none
theorem ms_eq {E : Env} {t z : Nat} {row : List IV} (h : msT E t = some (z, row)) (H : Hp) (k k' : IntKind) (n m : Int) :
  makeSliceE E H t (.i (.v (.int k n))) (.i (.v (.int k' m))) = if 0 ≤ n ∧ n = m ∧ n < 1073741824 then some (.ref H.length 0 0 n.toNat, H ++ [.sl z 0 (List.replicate n.toNat row) true]) else if n = 0 ∧ 0 < m ∧ m < 1073741824 then some (.ref H.length 0 0 0, H ++ [.sl z 0 [] false]) else none := by
 unfold msT at h
 split at h
 ·rename_i e he
  split at h
  ·rename_i z0 row0 b h1 h2 h3
   split at h
   ·rename_i hc
    cases h
    unfold makeSliceE
    simp only [he, h1, h2, h3]
    obtain ⟨c1, c2, c3⟩ := hc
    by_cases hn : 0 ≤ n ∧ n = m ∧ n < 1073741824
    ·rw [if_pos hn, if_pos ⟨hn.1, hn.2.1, hn.2.2, c1, c2, c3⟩]
    ·rw [if_neg hn, if_neg (fun h => hn ⟨h.1, h.2.1, h.2.2.1⟩)]
     by_cases hn : n = 0 ∧ 0 < m ∧ m < 1073741824
     ·rw [if_pos hn, if_pos ⟨hn.1, hn.2.1, hn.2.2, c1, c2, c3⟩]
     ·rw [if_neg hn, if_neg (fun h => hn ⟨h.1, h.2.1, h.2.2.1⟩)]
   ·cases h
  ·cases h
 ·cases h
def aggK : Option (List AV) → Option AV
 | some c => some (.agg c)
 | none => none
theorem aggK_some (c : List AV) : aggK (some c) = some (.agg c) := rfl
theorem bd_arr {E : Env} {t n e z : Nat} {zc : List AV} (h0 : zeroO E.P t = some (.agg zc)) (h1 : arrO E.P t = some (n, e)) (h2 : szO E.P e = some z) (parts : List (Nat × AV)) : buildE E t parts = aggK (fillA z zc parts) := by
 unfold buildE
 rw [h0]
 simp only [h1, h2]
 cases fillA z zc parts <;> rfl
theorem bd_struct {E : Env} {t : Nat} {zc : List AV} {pl : List (Nat × Nat)} (h0 : zeroO E.P t = some (.agg zc)) (h1 : arrO E.P t = none) (h2 : placesO E.P t = some pl) (parts : List (Nat × AV)) : buildE E t parts = aggK (fillS pl zc parts) := by
 unfold buildE
 rw [h0]
 simp only [h1, h2]
 cases fillS pl zc parts <;> rfl
def fsK (pl : List (Nat × Nat)) (cells : List AV) (v : AV) (r : List (Nat × AV)) : Option (Nat × Nat) → Option (List AV)
 | some (off, z) => if (cellsA v).length = z ∧ off + z ≤ cells.length ∧ (cellsA v).all one = true then fillS pl (over cells off (cellsA v)) r else none
 | none => none
theorem fillS_nil (pl : List (Nat × Nat)) (cells : List AV) : fillS pl cells [] = some cells := rfl
theorem fillS_cons (pl : List (Nat × Nat)) (cells : List AV) (i : Nat) (v : AV) (r : List (Nat × AV)) : fillS pl cells ((i, v) :: r) = fsK pl cells v r pl[i]? := by
 simp only [fillS]
 cases pl[i]? <;> rfl
theorem fsK_some (pl : List (Nat × Nat)) (cells : List AV) (v : AV) (r : List (Nat × AV)) (off z : Nat) : fsK pl cells v r (some (off, z)) = if (cellsA v).length = z ∧ off + z ≤ cells.length ∧ (cellsA v).all one = true then fillS pl (over cells off (cellsA v)) r else none := rfl

def stR (n c g k : Nat) (H1 : Hp) (xs : List IV) (sz r : Nat) (rows : List (List IV)) (ex : Bool) : Option (List IV) → Option Hp
 | some row => some (H1.set c (.sl sz g (rows.set r (row.take k ++ xs ++ row.drop (k + n))) ex))
 | none => none
def stG (n c g r k : Nat) (H1 : Hp) (xs : List IV) : Option Chunk → Option Hp
 | some (.sl sz g' rows ex) => if g = g' ∧ k + n ≤ sz then stR n c g' k H1 xs sz r rows ex rows[r]? else none
 | _ => none
def stF (ks : List (Option Nat)) (n c g r k : Nat) : Option (List IV × Hp) → Option Hp
 | some (xs, H1) => stG n c g r k H1 (canR ks xs) H1[c]?
 | none => none
def stC (ks : List (Option Nat)) (n : Nat) (H : Hp) (c g r k : Nat) (cv : List AV) : Option Chunk → Option Hp
 | some (.box cells) => if k + n ≤ cells.length then some (H.set c (.box (over cells k cv))) else none
 | some (.sl ..) => stF ks n c g r k (freezeAll H cv)
 | _ => none
theorem st_eq {E : Env} {t n : Nat} (h : szO E.P t = some n) (H : Hp) (c g r k : Nat) (v : AV) :
  storeE E H t (.ptr c g r k) v = if (cellsA v).length = n ∧ (cellsA v).all one = true then stC (E.kinds t) n H c g r k (cellsA v) H[c]? else none := by
 unfold storeE
 rw [h]
 simp only
 split
 ·cases H[c]? with
  | none => rfl
  | some x =>
   cases x with
   | sl sz g' rows ex =>
    simp only [stC]
    cases freezeAll H (cellsA v) with
    | none => rfl
    | some y =>
     obtain ⟨xs, H1⟩ := y
     simp only [stF]
     cases H1[c]? with
     | none => rfl
     | some x =>
      cases x with
      | sl sz g' rows ex =>
       simp only [stG]
       split
       ·cases rows[r]? <;> rfl
       ·rfl
      | _ => rfl
   | _ => rfl
 ·rfl
theorem stC_box (ks : List (Option Nat)) (n : Nat) (H : Hp) (c g r k : Nat) (cv cells : List AV) : stC ks n H c g r k cv (some (.box cells)) = if k + n ≤ cells.length then some (H.set c (.box (over cells k cv))) else none := rfl
theorem stC_sl (ks : List (Option Nat)) (n : Nat) (H : Hp) (c g r k : Nat) (cv : List AV) (sz g' : Nat) (rows : List (List IV)) (ex : Bool) : stC ks n H c g r k cv (some (.sl sz g' rows ex)) = stF ks n c g r k (freezeAll H cv) := rfl
theorem stF_some (ks : List (Option Nat)) (n c g r k : Nat) (xs : List IV) (H1 : Hp) : stF ks n c g r k (some (xs, H1)) = stG n c g r k H1 (canR ks xs) H1[c]? := rfl
theorem stG_sl (n c g r k : Nat) (H1 : Hp) (xs : List IV) (sz g' : Nat) (rows : List (List IV)) (ex : Bool) : stG n c g r k H1 xs (some (.sl sz g' rows ex)) = if g = g' ∧ k + n ≤ sz then stR n c g' k H1 xs sz r rows ex rows[r]? else none := rfl
theorem stR_some (n c g k : Nat) (H1 : Hp) (xs : List IV) (sz r : Nat) (rows : List (List IV)) (ex : Bool) (row : List IV) : stR n c g k H1 xs sz r rows ex (some row) = some (H1.set c (.sl sz g (rows.set r (row.take k ++ xs ++ row.drop (k + n))) ex)) := rfl
theorem set_concat {α : Type} (l : List α) (a b : α) : (l ++ [a]).set l.length b = l ++ [b] := by simp
theorem norm_nil (fr : Fr) : norm [] fr = [] := rfl
theorem norm_cons (k : Nat) (l : List Nat) (fr : Fr) : norm (k :: l) fr = (k, get k fr) :: norm l fr := rfl

noncomputable def rl (E : Env) (B : Nat) (f : FuncId) (c : Code) (fr : Fr) (H : Hp) : Option (Ex × Fr × Hp) :=
 match c with
 | .loop c => seqK (execT E B f (.loop c)) (execT E B f c fr H)
 | _ => none
noncomputable def rlG (E : Env) (B : Nat) (f : FuncId) (c : Code) (p : Fr × Hp) : Option (Ex × Fr × Hp) := rl E B f c p.1 p.2
noncomputable def rlM (E : Env) (B : Nat) (f : FuncId) (c : Code) (hd : List Nat) (z : List (Nat × Nat)) (fr : Fr) (H : Hp) : Option (Ex × Fr × Hp) := rlG E B f c (gcn B (norm hd (frzF z fr H).1) (frzF z fr H).2)
theorem rlM_eq (E : Env) (B : Nat) (f : FuncId) (c : Code) (hd : List Nat) (z : List (Nat × Nat)) (fr : Fr) (H : Hp) : rlM E B f c hd z fr H = rlG E B f c (gcn B (norm hd (frzF z fr H).1) (frzF z fr H).2) := rfl
section
variable {E : Env} {B : Nat} {f : FuncId} {fn : Func} {k : Nat} {c : Code} {hd : List Nat}
theorem rlG_mk (c : Code) (fr : Fr) (H : Hp) : rlG E B f c (fr, H) = rl E B f c fr H := rfl
theorem rl_intro (hc : loopAt fn k = .loop c) (hm : E.mat f ((firstRegion c).getD 0) = []) (hb : E.matb f ((firstRegion c).getD 0) = []) (hz : E.frz f ((firstRegion c).getD 0) = []) (hh : E.head f ((firstRegion c).getD 0) = hd) (fr : Fr) (H : Hp) : execT E B f (.loop c) fr H = rlG E B f (loopAt fn k) (gcn B (norm hd fr) H) := by
 unfold rlG rl
 rw [hc, execT_loop]
 simp only [hdE, hm, hb, hz, hh, matF_nil, matB_nil, frzF_nil]
theorem rl_introM {m : List (Nat × Nat)} {mb : List (Nat × Nat × Nat)} {z : List (Nat × Nat)} (hc : loopAt fn k = .loop c) (hm : E.mat f ((firstRegion c).getD 0) = m) (hb : E.matb f ((firstRegion c).getD 0) = mb) (hz : E.frz f ((firstRegion c).getD 0) = z) (hh : E.head f ((firstRegion c).getD 0) = hd) (fr : Fr) (H : Hp) :
  execT E B f (.loop c) fr H = rlM E B f (loopAt fn k) hd z (matF m fr H).1 (matB mb (matF m fr H).1 (matF m fr H).2) := by
 unfold rlM rlG rl
 rw [hc, execT_loop]
 simp only [hdE, hm, hb, hz, hh]
theorem rl_step (hc : loopAt fn k = .loop c) (fr : Fr) (H : Hp) : rl E B f (loopAt fn k) fr H = seqK (execT E B f (.loop c)) (execT E B f c fr H) := by
 unfold rl
 rw [hc]
end
theorem gc_T {B : Nat} {H : Hp} (h : B ≤ H.length) (fr : Fr) : gc B fr H = gcW (gcR B fr H) fr H := by unfold gc; rw [if_pos h]
theorem nc1 (k : Nat) : (k : Int) + 1 = ((k + 1 : Nat) : Int) := rfl

theorem w_i8 {n : Int} (h1 : -128 ≤ n) (h2 : n ≤ 127) : IntKind.i8.wrap n = n := by
 simp only [IntKind.wrap, IntKind.signed, IntKind.bits, Bool.true_and, ge_iff_le, decide_eq_true_eq]
 split <;> omega
theorem w_u8 {n : Int} (h1 : 0 ≤ n) (h2 : n ≤ 255) : IntKind.u8.wrap n = n := by
 simp only [IntKind.wrap, IntKind.signed, IntKind.bits, Bool.false_and, Bool.false_eq_true, if_false]
 omega
theorem w_i16 {n : Int} (h1 : -32768 ≤ n) (h2 : n ≤ 32767) : IntKind.i16.wrap n = n := by
 simp only [IntKind.wrap, IntKind.signed, IntKind.bits, Bool.true_and, ge_iff_le, decide_eq_true_eq]
 split <;> omega
theorem w_u16 {n : Int} (h1 : 0 ≤ n) (h2 : n ≤ 65535) : IntKind.u16.wrap n = n := by
 simp only [IntKind.wrap, IntKind.signed, IntKind.bits, Bool.false_and, Bool.false_eq_true, if_false]
 omega
theorem w_i32 {n : Int} (h1 : -2147483648 ≤ n) (h2 : n ≤ 2147483647) : IntKind.i32.wrap n = n := by
 simp only [IntKind.wrap, IntKind.signed, IntKind.bits, Bool.true_and, ge_iff_le, decide_eq_true_eq]
 split <;> omega
theorem w_u32 {n : Int} (h1 : 0 ≤ n) (h2 : n ≤ 4294967295) : IntKind.u32.wrap n = n := by
 simp only [IntKind.wrap, IntKind.signed, IntKind.bits, Bool.false_and, Bool.false_eq_true, if_false]
 omega
theorem w_i64 {n : Int} (h1 : -9223372036854775808 ≤ n) (h2 : n ≤ 9223372036854775807) : IntKind.i64.wrap n = n := by
 simp only [IntKind.wrap, IntKind.signed, IntKind.bits, Bool.true_and, ge_iff_le, decide_eq_true_eq]
 split <;> omega
theorem w_u64 {n : Int} (h1 : 0 ≤ n) (h2 : n ≤ 18446744073709551615) : IntKind.u64.wrap n = n := by
 simp only [IntKind.wrap, IntKind.signed, IntKind.bits, Bool.false_and, Bool.false_eq_true, if_false]
 omega
theorem lt_T {a b : Int} (h : a < b) : (a < b) = True := eq_true h
theorem lt_F {a b : Int} (h : b ≤ a) : (a < b) = False := eq_false (by omega)
theorem le_T {a b : Int} (h : a ≤ b) : (a ≤ b) = True := eq_true h
theorem le_F {a b : Int} (h : b < a) : (a ≤ b) = False := eq_false (by omega)
theorem eq_F {a b : Int} (h : ¬ a = b) : (a = b) = False := eq_false h
theorem eq_T {a b : Int} (h : a = b) : (a = b) = True := eq_true h
theorem nlt_T {a b : Nat} (h : a < b) : (a < b) = True := eq_true h
theorem nlt_F {a b : Nat} (h : b ≤ a) : (a < b) = False := eq_false (by omega)
theorem nle_T {a b : Nat} (h : a ≤ b) : (a ≤ b) = True := eq_true h
theorem nle_F {a b : Nat} (h : b < a) : (a ≤ b) = False := eq_false (by omega)
end Go.VI

set_option linter.unusedSimpArgs false
set_option linter.unusedVariables false
namespace Go.VI
def extIndexByte : List AV → Hp → Option (AV × Hp)
 | [.i (.str s), .i (.v (.int .u8 b))], H => some (.i (.v (.int .i64 (Lib.indexByte s b.toNat.toUInt8))), H)
 | _, _ => none
def powT : List IV := Lib.pow10Tab.map fun z => .v (.int .u64 z)
def extMap (es : List (Int × Nat)) : List AV → Hp → Option (AV × Hp)
 | [], H => some (.i (.mp es), H)
 | _, _ => none
def extWS (tB t5 : Nat) : List AV → Hp → Option (AV × Hp)
 | [.mref 0, .i (.str s)], [.tb t [.i (.v (.pointer none)), .i (.v (.slice none 0 0))]] => if t = tB ∧ 0 < s.length ∧ s.length ≤ 1000000 then some (.tup [.i (.v (.int .i64 s.length)), .dead], [.tb t [.mref 0, .mref 1], .buf t5 s]) else none
 | [.mref 0, .i (.str s)], [.tb t [.mref 0, .mref 1], .buf t1 l] => if t = tB ∧ t1 = t5 ∧ 0 < l.length ∧ 0 < s.length ∧ s.length + l.length ≤ 1000000 then some (.tup [.i (.v (.int .i64 s.length)), .dead], [.tb t [.mref 0, .mref 2], .gone, .buf t5 (l ++ s)]) else none
 | _, _ => none
def extBS (tB t5 : Nat) : List AV → Hp → Option (AV × Hp)
 | [.mref 0], [.tb t [.i (.v (.pointer none)), .i (.v (.slice none 0 0))]] => if t = tB then some (.i (.str []), [.tb t [.i (.v (.pointer none)), .i (.v (.slice none 0 0))]]) else none
 | [.mref 0], [.tb t [.mref 0, .mref 1], .buf t1 l] => if t = tB ∧ t1 = t5 ∧ 0 < l.length ∧ l.length ≤ 1000000 then some (.i (.str l), [.tb t [.mref 0, .dead], .gone]) else none
 | _, _ => none
def extItoa : List AV → Hp → Option (AV × Hp)
 | [.i (.v (.int .i64 n))], H => if -9223372036854775808 ≤ n ∧ n ≤ 9223372036854775807 then some (.i (.str (Lib.itoa n)), H) else none
 | _, _ => none
def extCount : List AV → Hp → Option (AV × Hp)
 | [.i (.str s), .i (.str [b])], H => some (.i (.v (.int .i64 (Lib.countByte s b))), H)
 | _, _ => none
def Ext1 (E : Env) (f : FuncId) (h : List AV → Hp → Option (AV × Hp)) : Prop := ∀ args H r H', h args H = some (r, H') → ∀ I η w vs, Conc E I η H w → ArgsOK I η H args vs →
 Calls E.P f vs w fun e w' => ∃ x, e = .returned x ∧ After E I η H w H' w' fun I' η' => RelA I' η' H' r x
theorem args_two {I : Imm} {η : Eta} {H : Hp} {a b : AV} {vs : Array Value} (h : ArgsOK I η H [a, b] vs) : ∃ x y, vs = #[x, y] ∧ RelA I η H a x ∧ RelA I η H b y := by
 obtain ⟨hs, hr⟩ := h
 obtain ⟨l⟩ := vs
 match l, hs with
 | [x, y], _ => exact ⟨x, y, rfl, hr 0 a rfl, hr 1 b rfl⟩
theorem ext_indexByte {E : Env} {f : FuncId} (hc : ∀ (s : ByteArray) (c : Int) (w : World), Calls E.P f #[.string s, .int .u8 c] w fun e w' => e = .returned (.int .i64 (Lib.indexByte s.data.toList c.toNat.toUInt8)) ∧ w' = w) : Ext1 E f extIndexByte := by
 intro args H r H' hr I η w vs hC hA
 unfold extIndexByte at hr
 split at hr
 ·rename_i s b
  cases hr
  obtain ⟨x, y, rfl, h1, h2⟩ := args_two hA
  obtain rfl := relA_str h1
  obtain rfl := relA_v h2
  refine (hc ⟨⟨s⟩⟩ b w).mono fun e w' ⟨h1, h2⟩ => ?_
  subst h2
  exact ⟨_, h1, After.refl hC (.i _ _ (.v _ rfl))⟩
 ·cases hr
theorem isoK_ext {E : Env} {cl : CallF} {f : FuncId} {h : List AV → Hp → Option (AV × Hp)} (he : E.ext f = some h) {as0 : List AV} {H : Hp} {r : AV} (hr : refsL as0 = []) (hrr : refsA r = []) (hc : ∃ L, h as0 [] = some (r, L)) : isoK E cl f as0 H = some (r, H) := by
 rw [isoK_cl he]
 exact isoK_val (E := { E with ext := fun _ => none }) rfl hr hrr hc
end Go.VI

set_option linter.unusedSimpArgs false
set_option linter.unusedVariables false
namespace Go.VI
theorem condK_b (b : Bool) (x y : Option (Ex × Fr × Hp)) : condK (.i (.v (.bool b))) x y = if b = true then x else y := by cases b <;> rfl
theorem condK_ndec (p : Prop) [Decidable p] (a b : Option (Ex × Fr × Hp)) : condK (.i (.v (.bool (decide (¬ p))))) a b = if p then b else a := by by_cases h : p <;> simp [h, condK]
theorem be_ii (P : Program) (op : BinOp) (t : TypeId) (k k' : IntKind) (a b : Int) : binE P op t (.i (.v (.int k a))) (.i (.v (.int k' b))) = intE op k a k' b := rfl
theorem be_ss (P : Program) (op : BinOp) (t : TypeId) (a b : List UInt8) : binE P op t (.i (.str a)) (.i (.str b)) = strE op a b := rfl
theorem be_bb (P : Program) (t : TypeId) (a b : Bool) : binE P .eql t (.i (.v (.bool a))) (.i (.v (.bool b))) = (eqE P t (.i (.v (.bool a))) (.i (.v (.bool b)))).map .bool := rfl
theorem be_bn (P : Program) (t : TypeId) (a b : Bool) : binE P .neq t (.i (.v (.bool a))) (.i (.v (.bool b))) = (eqE P t (.i (.v (.bool a))) (.i (.v (.bool b)))).map fun b => .bool (!b) := rfl
theorem be_pn (P : Program) (t : TypeId) (c g r k : Nat) : binE P .eql t (.ptr c g r k) (.i (.v (.pointer none))) = (eqE P t (.ptr c g r k) (.i (.v (.pointer none)))).map .bool := rfl
theorem be_pnn (P : Program) (t : TypeId) (c g r k : Nat) : binE P .neq t (.ptr c g r k) (.i (.v (.pointer none))) = (eqE P t (.ptr c g r k) (.i (.v (.pointer none)))).map fun b => .bool (!b) := rfl
theorem be_tn (P : Program) (t : TypeId) (c : List IV) (o : Nat) : binE P .eql t (.i (.pt c o)) (.i (.v (.pointer none))) = (eqE P t (.i (.pt c o)) (.i (.v (.pointer none)))).map .bool := rfl
theorem be_tnn (P : Program) (t : TypeId) (c : List IV) (o : Nat) : binE P .neq t (.i (.pt c o)) (.i (.v (.pointer none))) = (eqE P t (.i (.pt c o)) (.i (.v (.pointer none)))).map fun b => .bool (!b) := rfl
theorem be_nn (P : Program) (t : TypeId) : binE P .eql t (.i (.v (.pointer none))) (.i (.v (.pointer none))) = (eqE P t (.i (.v (.pointer none))) (.i (.v (.pointer none)))).map .bool := rfl
theorem be_nnn (P : Program) (t : TypeId) : binE P .neq t (.i (.v (.pointer none))) (.i (.v (.pointer none))) = (eqE P t (.i (.v (.pointer none))) (.i (.v (.pointer none)))).map fun b => .bool (!b) := rfl
theorem be_aa (P : Program) (t : TypeId) (a b : List AV) : binE P .eql t (.agg a) (.agg b) = (eqE P t (.agg a) (.agg b)).map .bool := rfl
section
variable {E : Env} {cl : CallF} {ops : List Oper} {fr : Fr} {H : Hp}
theorem guK_b (dst : Option Nat) (op : Op) (r : List Oper) (b : Bool) : guK E cl ops dst op r fr H (some b) = if b = true then opK E cl ops dst r fr (evOp E cl op fr H) else evOps E cl ops r (putD dst (.tup []) fr) H := by cases b <;> rfl
theorem guT_b (dst : Option Nat) (op : Op) (r : List Oper) (b : Bool) : guT E cl ops dst op r fr H (some b) = if b = true then opT E cl ops dst op r fr H (evOp E cl op fr H) else tK [] (evT E cl ops r (putD dst (.tup []) fr) H) := by cases b <;> rfl
theorem guK_dec (dst : Option Nat) (op : Op) (r : List Oper) (p : Prop) [Decidable p] : guK E cl ops dst op r fr H (some (decide p)) = if p then opK E cl ops dst r fr (evOp E cl op fr H) else evOps E cl ops r (putD dst (.tup []) fr) H := by by_cases h : p <;> simp [h, guK]
theorem guT_dec (dst : Option Nat) (op : Op) (r : List Oper) (p : Prop) [Decidable p] : guT E cl ops dst op r fr H (some (decide p)) = if p then opT E cl ops dst op r fr H (evOp E cl op fr H) else tK [] (evT E cl ops r (putD dst (.tup []) fr) H) := by by_cases h : p <;> simp [h, guT]
theorem guK_ndec (dst : Option Nat) (op : Op) (r : List Oper) (p : Prop) [Decidable p] : guK E cl ops dst op r fr H (some (decide (¬ p))) = if p then evOps E cl ops r (putD dst (.tup []) fr) H else opK E cl ops dst r fr (evOp E cl op fr H) := by by_cases h : p <;> simp [h, guK]
theorem guT_ndec (dst : Option Nat) (op : Op) (r : List Oper) (p : Prop) [Decidable p] : guT E cl ops dst op r fr H (some (decide (¬ p))) = if p then tK [] (evT E cl ops r (putD dst (.tup []) fr) H) else opT E cl ops dst op r fr H (evOp E cl op fr H) := by by_cases h : p <;> simp [h, guT]
theorem pickK_t (a b : AV) : pickK a b (.i (.v (.bool true))) = some a := rfl
theorem pickK_f (a b : AV) : pickK a b (.i (.v (.bool false))) = some b := rfl
theorem pickK_bb (a b t : Bool) : pickK (.i (.v (.bool a))) (.i (.v (.bool b))) (.i (.v (.bool t))) = some (.i (.v (.bool (bif t then a else b)))) := by cases t <;> rfl
theorem ndec (p : Prop) [Decidable p] : (!decide p) = decide (¬ p) := by by_cases h : p <;> simp [h]
theorem odec (p q : Prop) [Decidable p] [Decidable q] : (decide p || decide q) = decide (p ∨ q) := by by_cases h : p <;> simp [h]
theorem adec (p q : Prop) [Decidable p] [Decidable q] : (decide p && decide q) = decide (p ∧ q) := by by_cases h : p <;> simp [h]
theorem sdec (a b : List UInt8) : (a == b) = decide (a = b) := by by_cases h : a = b <;> simp [h]
theorem u8_eq (a b : UInt8) : (a = b) = (a.toNat = b.toNat) := by simp [UInt8.toNat_inj]
def cvK (H : Hp) : AV → Option (AV × Hp)
 | .i (.str l) => if l.length < 1073741824 then some (.ref H.length 0 0 l.length, H ++ [.sl 1 0 (l.map fun b => [IV.v (.int .u8 b.toNat)]) false]) else none
 | _ => none
theorem cvK_str (l : List UInt8) : cvK H (.i (.str l)) = if l.length < 1073741824 then some (.ref H.length 0 0 l.length, H ++ [.sl 1 0 (l.map fun b => [IV.v (.int .u8 b.toNat)]) false]) else none := rfl
theorem op_convB {s d : TypeId} (h1 : isStrO E.P s = true) (h2 : (slO E.P d).bind (kindO E.P) = some .u8) (x : Operand) : evOp E cl (.convert s d x) fr H = cvK H (opd E fr x) := by
 have h3 : (slO E.P d).isSome = true := by cases h : slO E.P d with | none => rw [h] at h2; cases h2 | some _ => rfl
 rw [op_heavy _ (by simpa [heavy] using h3) (by intro f a t e; cases e)]
 simp only [evH]
 generalize opd E fr x = y
 cases y with
 | i y => cases y with
  | str l => simp only [cvK, h1, h2, true_and]
  | _ => rfl
 | _ => rfl
def cvS : Option (Nat × List (List IV) × Bool) → Option AV
 | some (z, rows, _) => if rows = [] ∨ z = 1 then (numsOf rows).map fun l => .str (l.map fun n => UInt8.ofNat n.toNat) else none
 | none => none
theorem cvS_some (z : Nat) (rows : List (List IV)) (ex : Bool) : cvS (some (z, rows, ex)) = if rows = [] ∨ z = 1 then (numsOf rows).map fun l => .str (l.map fun n => UInt8.ofNat n.toNat) else none := rfl
theorem op_cvS {s d e : TypeId} (h : slO E.P d = none) (hs : slO E.P s = some e) (h1 : isStrO E.P d = true) (h2 : kindO E.P e = some .u8) (x : Operand) : evOp E cl (.convert s d x) fr H = pK H (cvS (rowsE H (opd E fr x))) := by
 rw [op_convS s d e x h hs]
 simp only [convS, h1, h2, and_self, if_true]
 cases rowsE H (opd E fr x) <;> rfl
theorem rowsE_i (sz : Nat) (rows : List (List IV)) (ex : Bool) : rowsE H (.i (.sl sz rows ex)) = some (sz, rows, ex) := rfl
theorem rowsE_ref (c g off len : Nat) : rowsE H (.ref c g off len) = rsC g off len H[c]? := by
 simp only [rowsE]
 cases H[c]? with
 | none => rfl
 | some x => cases x <;> rfl
theorem numsOf_nil : numsOf [] = some [] := rfl
theorem numsOf_cons (n : Int) (r : List (List IV)) : numsOf ([.v (.int .u8 n)] :: r) = (numsOf r).map (n :: ·) := rfl
theorem numsOf_bytes (l : List UInt8) : numsOf (l.map fun b => [IV.v (.int .u8 b.toNat)]) = some (l.map fun b => (b.toNat : Int)) := by
 induction l with
 | nil => rfl
 | cons b l ih => simp only [List.map_cons, numsOf_cons, ih, Option.map_some]
theorem bytes_back (l : List UInt8) : (l.map fun b => (b.toNat : Int)).map (fun n => UInt8.ofNat n.toNat) = l := by
 rw [List.map_map]
 conv => rhs; rw [← List.map_id l]
 refine List.map_congr_left fun b _ => ?_
 simp
def nxK (H : Hp) (c : Nat) : Option Chunk → Option (AV × Hp)
 | some (.iter s pos) => if pos < s.length then
   some (.tup [.i (.v (.bool true)), .i (.v (.int .i64 pos)), .i (.v (.int .i32 (Utf8.decode ⟨⟨s⟩⟩ pos).1))], H.set c (.iter s (pos + (Utf8.decode ⟨⟨s⟩⟩ pos).2))) else some (.tup [.i (.v (.bool false))], H)
 | _ => none
theorem nxK_iter (c : Nat) (s : List UInt8) (pos : Nat) : nxK H c (some (.iter s pos)) = if pos < s.length then
   some (.tup [.i (.v (.bool true)), .i (.v (.int .i64 pos)), .i (.v (.int .i32 (Utf8.decode ⟨⟨s⟩⟩ pos).1))], H.set c (.iter s (pos + (Utf8.decode ⟨⟨s⟩⟩ pos).2))) else some (.tup [.i (.v (.bool false))], H) := rfl
def nxA (H : Hp) : AV → Option (AV × Hp)
 | .ptr c _ _ 0 => nxK H c H[c]?
 | _ => none
theorem nxA_ptr (c g r : Nat) : nxA H (.ptr c g r 0) = nxK H c H[c]? := rfl
theorem op_nx (it : Operand) : evOp E cl (.next it true) fr H = nxA H (opd E fr it) := by
 rw [op_next]
 simp only [evH]
 cases opd E fr it with
 | ptr c g r k => cases k with
  | zero =>
   simp only [nxA]
   cases H[c]? with
   | none => rfl
   | some x => cases x <;> rfl
  | succ k => rfl
 | _ => rfl

def slSK (s : List UInt8) : Option Nat → Option Nat → Option AV
 | some l, some h => if l ≤ h ∧ h ≤ s.length then some (.i (.str ((s.drop l).take (h - l)))) else none
 | _, _ => none
theorem slSK_some (s : List UInt8) (l h : Nat) : slSK s (some l) (some h) = if l ≤ h ∧ h ≤ s.length then some (.i (.str ((s.drop l).take (h - l)))) else none := rfl
theorem bnd_n (d : Nat) : bnd d none = some d := rfl
theorem bnd_i (d : Nat) (k : IntKind) (n : Int) : bnd d (some (.i (.v (.int k n)))) = if 0 ≤ n then some n.toNat else none := rfl
theorem sl_str {t : TypeId} (ht : isStrO E.P t = true) (s : List UInt8) (lo hi : Option AV) : sliceE E H t (.i (.str s)) lo hi none = slSK s (bnd 0 lo) (bnd s.length hi) := by
 simp only [sliceE, lenE, ht, Option.isNone_none, and_self, if_true]
 cases bnd 0 lo with
 | none => rfl
 | some l => cases bnd s.length hi <;> rfl
def slN1 (z sz : Nat) (rows : List (List IV)) (ex : Bool) : Option Nat → Option Nat → Option AV
 | some l, some h => if (l ≤ h ∧ h ≤ rows.length) ∧ (rows = [] ∨ z = sz) then some (.i (.sl sz ((rows.drop l).take (h - l)) (ex && decide (h = rows.length)))) else none
 | _, _ => none
def slN2 (z c g off len : Nat) : Option Nat → Option Nat → Option Chunk → Option AV
 | some l, some h, some (.sl sz g' _ _) => if (l ≤ h ∧ h ≤ len) ∧ g = g' ∧ z = sz then some (.ref c g (off + l) (h - l)) else none
 | some l, some h, some (.fz sz g' rows ex) => if (l ≤ h ∧ h ≤ len) ∧ g = g' ∧ z = sz ∧ off + len ≤ rows.length then some (.i (.sl sz ((rows.drop (off + l)).take (h - l)) (ex && decide (off + h = rows.length)))) else none
 | _, _, _ => none
def slN (z : Nat) (H : Hp) (lo hi : Option AV) : AV → Option AV
 | .i (.sl sz rows ex) => slN1 z sz rows ex (bnd 0 lo) (bnd rows.length hi)
 | .ref c g off len => slN2 z c g off len (bnd 0 lo) (bnd len hi) H[c]?
 | _ => none
theorem slN_i (z : Nat) (lo hi : Option AV) (sz : Nat) (rows : List (List IV)) (ex : Bool) : slN z H lo hi (.i (.sl sz rows ex)) = slN1 z sz rows ex (bnd 0 lo) (bnd rows.length hi) := rfl
theorem slN_ref (z : Nat) (lo hi : Option AV) (c g off len : Nat) : slN z H lo hi (.ref c g off len) = slN2 z c g off len (bnd 0 lo) (bnd len hi) H[c]? := rfl
theorem slN1_some (z sz : Nat) (rows : List (List IV)) (ex : Bool) (l h : Nat) : slN1 z sz rows ex (some l) (some h) = if (l ≤ h ∧ h ≤ rows.length) ∧ (rows = [] ∨ z = sz) then some (.i (.sl sz ((rows.drop l).take (h - l)) (ex && decide (h = rows.length)))) else none := rfl
theorem slN2_sl (z c g off len l h sz g' : Nat) (rows : List (List IV)) (ex : Bool) : slN2 z c g off len (some l) (some h) (some (.sl sz g' rows ex)) = if (l ≤ h ∧ h ≤ len) ∧ g = g' ∧ z = sz then some (.ref c g (off + l) (h - l)) else none := rfl
theorem slN2_fz (z c g off len l h sz g' : Nat) (rows : List (List IV)) (ex : Bool) : slN2 z c g off len (some l) (some h) (some (.fz sz g' rows ex)) = if (l ≤ h ∧ h ≤ len) ∧ g = g' ∧ z = sz ∧ off + len ≤ rows.length then some (.i (.sl sz ((rows.drop (off + l)).take (h - l)) (ex && decide (off + h = rows.length)))) else none := rfl
theorem sl_sl {t e : TypeId} {z : Nat} (ht : slO E.P t = some e) (hz : szO E.P e = some z) (hs : isStrO E.P t = false) (x : AV) (lo hi : Option AV) : sliceE E H t x lo hi none = slN z H lo hi x := by
 unfold sliceE
 cases x with
 | i x => cases x with
  | sl sz rows ex =>
   simp only [lenE, slN, ht, hz, slN1]
   cases bnd 0 lo with
   | none => rfl
   | some l => cases bnd rows.length hi with
    | none => rfl
    | some h =>
     simp only
     by_cases h1 : l ≤ h ∧ h ≤ rows.length <;> by_cases h2 : rows = [] ∨ z = sz <;> simp [h1, h2]
  | str s =>
   simp only [lenE, slN, hs]
   cases bnd 0 lo with
   | none => rfl
   | some l => cases bnd s.length hi with
    | none => rfl
    | some h => by_cases h1 : l ≤ h ∧ h ≤ s.length <;> simp [h1]
  | _ => rfl
 | ref c g off len =>
  simp only [lenE, slN, ht]
  cases bnd 0 lo with
  | none => simp [slN2]
  | some l => cases bnd len hi with
   | none => simp [slN2]
   | some h =>
    simp only
    cases hc : H[c]? with
    | none => simp [slN2]
    | some y =>
     cases y with
     | sl sz g' rows ex =>
      simp only [slN2, hz, Option.isNone_none, true_and, Option.some.injEq]
      by_cases h1 : l ≤ h ∧ h ≤ len <;> by_cases h2 : g = g' ∧ z = sz <;> simp [h1, h2]
     | fz sz g' rows ex =>
      simp only [slN2, hz, Option.some.injEq]
      by_cases h1 : l ≤ h ∧ h ≤ len <;> by_cases h2 : g = g' ∧ z = sz ∧ off + len ≤ rows.length <;> simp [h1, h2]
     | _ => simp [slN2]
 | _ => rfl
theorem rg0 : List.range 0 = [] := rfl
theorem rg1 : List.range 1 = [0] := rfl
theorem rg2 : List.range 2 = [0, 1] := rfl
theorem rg3 : List.range 3 = [0, 1, 2] := rfl
theorem rg4 : List.range 4 = [0, 1, 2, 3] := rfl
theorem rg5 : List.range 5 = [0, 1, 2, 3, 4] := rfl
theorem reach_cons (n c : Nat) (r seen : List Nat) : reach H (n + 1) (c :: r) seen = if c ∈ seen ∨ H.length ≤ c then reach H n r seen else reach H n (((H[c]?).map Chunk.refs).getD [] ++ r) (seen ++ [c]) := rfl
end
end Go.VI

set_option linter.unusedSimpArgs false
set_option linter.unusedVariables false
namespace Go.VI
def rdJ : Option (Ex × Fr × Hp) → Option (Ex × Hp)
 | some (e, _, H) => some (e, H)
 | none => none
def rdK (k : Fr → Hp → Option (Ex × Fr × Hp)) : Option (Ex × Fr × Hp) → Option (Ex × Hp)
 | some (.normal, fr, H) => rdJ (k fr H)
 | _ => none
theorem rd_eq {E : Env} {f : FuncId} (a b : Code) (fr : Fr) (H : Hp) : rdE (fun B' c fr H => execT E B' f c fr H) a b fr H = rdK (execT E H.length f b) (execT E H.length f a fr H) := by
 unfold rdE rdK
 simp only
 cases execT E H.length f a fr H with
 | none => rfl
 | some q =>
  obtain ⟨e, fr1, H1⟩ := q
  cases e with
  | normal =>
   simp only
   cases execT E H.length f b fr1 H1 with
   | none => rfl
   | some q => obtain ⟨e, f2, h2⟩ := q; rfl
  | _ => rfl
theorem rdK_n (k : Fr → Hp → Option (Ex × Fr × Hp)) (fr : Fr) (H : Hp) : rdK k (some (.normal, fr, H)) = rdJ (k fr H) := rfl
theorem rdJ_some (e : Ex) (fr : Fr) (H : Hp) : rdJ (some (e, fr, H)) = some (e, H) := rfl
def rgN (k : Hp → Option (Ex × Fr × Hp)) (fr : Fr) (caps : List AV) (css : List (List Int)) : Option (Ex × Hp) → Option (Ex × Fr × Hp)
 | some (.normal, H1) => if capsI H1 caps = some css then k H1 else none
 | some (e, H1) => some (e, fr, H1)
 | none => none
theorem rgE_nil (rd : Fr → Hp → Option (Ex × Hp)) (p : Nat) (fr : Fr) (caps : List AV) (css : List (List Int)) (H : Hp) : rgE rd p fr caps css [] H = some (.normal, fr, H) := rfl
theorem rgE_cons (rd : Fr → Hp → Option (Ex × Hp)) (p : Nat) (fr : Fr) (caps : List AV) (css : List (List Int)) (x : Int) (xs : List Int) (H : Hp) :
  rgE rd p fr caps css (x :: xs) H = rgN (rgE rd p fr caps css xs) fr caps css (rd ((p, .i (.v (.int .i64 x))) :: fr) H) := by
 unfold rgN
 simp only [rgE]
 cases rd ((p, .i (.v (.int .i64 x))) :: fr) H with
 | none => rfl
 | some q => obtain ⟨e, H1⟩ := q; cases e <;> rfl
theorem rgN_n (k : Hp → Option (Ex × Fr × Hp)) (fr : Fr) (caps : List AV) (css : List (List Int)) (H : Hp) : rgN k fr caps css (some (.normal, H)) = if capsI H caps = some css then k H else none := rfl
theorem rgN_r (k : Hp → Option (Ex × Fr × Hp)) (fr : Fr) (caps : List AV) (css : List (List Int)) (H : Hp) : rgN k fr caps css (some (.ret, H)) = some (.ret, fr, H) := rfl
theorem rgN_e (k : Hp → Option (Ex × Fr × Hp)) (fr : Fr) (caps : List AV) (css : List (List Int)) (id : Nat) (H : Hp) : rgN k fr caps css (some (.exit id, H)) = some (.exit id, fr, H) := rfl
theorem rgO_some (rd : Fr → Hp → Option (Ex × Hp)) (p : Nat) (fr : Fr) (H : Hp) (xs : List Int) (caps : List AV) (css : List (List Int)) : rgO rd p fr H (some (xs, caps, css)) = rgE rd p fr caps css xs H := rfl
def rfs : Code → List Code
 | .seq a b => rfs a ++ rfs b
 | .cond _ a b => rfs a ++ rfs b
 | .block _ c => rfs c
 | .loop c => rfs c
 | .scope c => rfs c
 | .rangeFunc g ps a b => [.rangeFunc g ps a b]
 | _ => []
def rfC (fn : Func) (k : Nat) : Code := match fn.body with
 | some c => ((rfs c)[k]?).getD .skip
 | none => .skip
def rfP : Code → Code × Code
 | .rangeFunc _ _ a b => (a, b)
 | _ => (.skip, .skip)
def rfAt (fn : Func) (k : Nat) : Code × Code := rfP (rfC fn k)
noncomputable def rdF (E : Env) (f : FuncId) (ab : Code × Code) : Fr → Hp → Option (Ex × Hp) := rdE (fun B' c fr H => execT E B' f c fr H) ab.1 ab.2
theorem rf_intro {E : Env} {B f k p : Nat} {fn : Func} {a b : Code} {g : Operand} {ps : Array Tmp} (h : rfC fn k = .rangeFunc g ps a b) (hp : ps = #[p]) (fr : Fr) (H : Hp) : execT E B f (.rangeFunc g ps a b) fr H = rgO (rdF E f (rfAt fn k)) p fr H (seqE E H (opd E fr g)) := by
 subst hp
 rw [execT_rangeFunc, rfAt, h]; rfl
theorem rd_step {E : Env} {f k : Nat} {fn : Func} {a b : Code} {g : Operand} {ps : Array Tmp} (h : rfC fn k = .rangeFunc g ps a b) (fr : Fr) (H : Hp) : rdF E f (rfAt fn k) fr H = rdK (execT E H.length f b) (execT E H.length f a fr H) := by
 rw [rfAt, h]; exact rd_eq a b fr H
def cpJ : Option (List Int) → Option (List (List Int)) → Option (List (List Int))
 | some a, some b => some (a :: b)
 | _, _ => none
def cpK : Option Chunk → Option (List (List Int)) → Option (List (List Int))
 | some (.box cells), x => cpJ (intsOf cells) x
 | _, _ => none
theorem capsI_nil (H : Hp) : capsI H [] = some [] := rfl
theorem capsI_ptr (H : Hp) (c g : Nat) (r : List AV) : capsI H (.ptr c g 0 0 :: r) = cpK H[c]? (capsI H r) := by
 simp only [capsI]
 cases H[c]? with
 | none => rfl
 | some x =>
  cases x with
  | box cells => simp only [cpK]; cases intsOf cells <;> cases capsI H r <;> rfl
  | _ => rfl
theorem cpK_box (cells : List AV) (x : Option (List (List Int))) : cpK (some (.box cells)) x = cpJ (intsOf cells) x := rfl
theorem cpJ_some (a : List Int) (b : List (List Int)) : cpJ (some a) (some b) = some (a :: b) := rfl
theorem intsOf_nil : intsOf [] = some [] := rfl
theorem intsOf_cons (n : Int) (r : List AV) : intsOf (.i (.v (.int .i64 n)) :: r) = (intsOf r).map (n :: ·) := rfl
def sqM (caps : List AV) (css : List (List Int)) : Option (List Int) → Option (List Int × List AV × List (List Int))
 | some xs => some (xs, caps, css)
 | none => none
def sqK (caps : List AV) : Option (List (List Int) → Option (List Int)) → Option (List (List Int)) → Option (List Int × List AV × List (List Int))
 | some L, some css => sqM caps css (L css)
 | _, _ => none
theorem seqE_clo {E : Env} (H : Hp) (g : FuncId) (caps : List AV) : seqE E H (.clo (.func g) [] caps) = sqK caps (E.seq g) (capsI H caps) := by
 simp only [seqE]
 cases E.seq g with
 | none => rfl
 | some L => cases capsI H caps with
  | none => rfl
  | some css => simp only [sqK]; cases L css <;> rfl
theorem sqK_some (caps : List AV) (L : List (List Int) → Option (List Int)) (css : List (List Int)) : sqK caps (some L) (some css) = sqM caps css (L css) := rfl
theorem sqM_some (caps : List AV) (css : List (List Int)) (xs : List Int) : sqM caps css (some xs) = some (xs, caps, css) := rfl
theorem sl_sl3 {E : Env} {H : Hp} {t e : TypeId} {z : Nat} (ht : slO E.P t = some e) (hz : szO E.P e = some z) (sz : Nat) (rows : List (List IV)) (ex : Bool) (k k' : IntKind) (h m : Int) :
  sliceE E H t (.i (.sl sz rows ex)) none (some (.i (.v (.int k h)))) (some (.i (.v (.int k' m)))) = if 0 ≤ h ∧ h = m ∧ h ≤ rows.length ∧ (rows = [] ∨ z = sz) then some (.i (.sl sz (rows.take h.toNat) true)) else none := by
 simp only [sliceE, lenE, bnd, ht, hz, Option.isSome_some, and_true]
 by_cases h0 : 0 ≤ h
 ·by_cases hm : h = m
  ·subst hm
   simp only [h0, if_true, Nat.zero_le, true_and, List.drop_zero, Nat.sub_zero]
   by_cases hl : h ≤ rows.length
   ·have hl' : h.toNat ≤ rows.length := by omega
    simp only [hl, hl', if_true, true_and]
   ·have hl' : ¬ h.toNat ≤ rows.length := by omega
    simp only [hl, hl', if_false, false_and]
  ·by_cases hm0 : 0 ≤ m
   ·have hne : ¬ h.toNat = m.toNat := by omega
    simp only [h0, hm, hm0, hne, if_true, if_false, false_and, and_false, Nat.zero_le, true_and]
    repeat' split
    all_goals rfl
   ·simp only [h0, hm, hm0, if_true, if_false, false_and, and_false, Nat.zero_le, true_and]
    repeat' split
    all_goals rfl
 ·simp only [h0, if_false, false_and]
def popsL : List Int := [0, 0, 0, 0, 1, 1, 0, 0, 2, 2, 2, 2, 2, 1, 1, 1, 2, 0, 1, 1, 1]
def pushesL : List Int := [0, 1, 1, 1, 1, 1, 1, 1, 1, 1, 1, 1, 1, 1, 2, 0, 2, 0, 0, 0, 0]
def tabT (l : List Int) : List IV := l.map fun z => .v (.int .i64 z)
def popsT : List IV := tabT popsL
def pushesT : List IV := tabT pushesL
def sucL (op arg i : Int) : List Int := (if op = 0 ∨ op = 17 then [] else [i + 1]) ++ (if op = 17 ∨ op = 18 then [arg] else [])
def seqSucc : List (List Int) → Option (List Int)
 | [[op, arg], [i]] => if -9223372036854775808 ≤ i + 1 ∧ i + 1 ≤ 9223372036854775807 then some (sucL op arg i) else none
 | _ => none
theorem seqSucc_eq (op arg i : Int) (h0 : -9223372036854775808 ≤ i + 1) (h : i + 1 ≤ 9223372036854775807) : seqSucc [[op, arg], [i]] = some (sucL op arg i) := by
 show (if _ then _ else _) = _; rw [if_pos ⟨h0, h⟩]
end Go.VI

set_option linter.unusedSimpArgs false
set_option linter.unusedVariables false
set_option linter.unusedSimpArgs false
set_option linter.unusedVariables false
namespace Go.VI
section
variable {E : Env} {cl : CallF} {fr : Fr} {H : Hp} {f : FuncId}
theorem touch_lk (t : TypeId) (x k : Operand) (ok : Bool) : touch E fr H (.lookup t x k ok) = refsA (opd E fr x) := rfl
theorem touch_mu (t : TypeId) (m k x : Operand) : touch E fr H (.mapUpdate t m k x) = refsA (opd E fr m) := rfl
theorem touch_mm (t : TypeId) (r : Option Operand) : touch E fr H (.makeMap t r) = [] := rfl
theorem op_lk (t : TypeId) (x k : Operand) (ok : Bool) : evOp E cl (.lookup t x k ok) fr H = pK H (lookA E H t (opd E fr x) (opd E fr k) ok) := map_pK _
def mmK (H : Hp) : Option (TypeId × TypeId) → Option (AV × Hp)
 | some _ => some (.mref H.length, H ++ [.map []])
 | none => none
theorem mmK_some (p : TypeId × TypeId) : mmK H (some p) = some (.mref H.length, H ++ [.map []]) := rfl
theorem op_mm (t : TypeId) : evOp E cl (.makeMap t none) fr H = mmK H (mapO E.P t) := rfl
theorem op_mu (t : TypeId) (m k x : Operand) : evOp E cl (.mapUpdate t m k x) fr H = setM E H t (opd E fr m) (opd E fr k) (opd E fr x) := rfl
theorem lookA_m (t : TypeId) (c : Nat) (k : AV) (ok : Bool) : lookA E H t (.mref c) k ok = lookC E t k ok H[c]? := rfl
theorem lookA_i (t : TypeId) (x : IV) (k : AV) : lookA E H t (.i x) k true = lookE E t (.i x) k := rfl
theorem setM_m (t : TypeId) (c : Nat) (k x : AV) : setM E H t (.mref c) k x = setC E H c t k x H[c]? := rfl
theorem cnA_mref (B c : Nat) : cnA B H (.mref c) = .mref c := by simp [cnA]
theorem cnC_map (B c : Nat) (es : List (IV × IV)) : cnC B H c (.map es) = .map es := rfl
theorem cnC_tb (B c t : Nat) (cells : List AV) : cnC B H c (.tb t cells) = .tb t (cnL B H cells) := rfl
theorem cnC_buf (B c t : Nat) (l : List UInt8) : cnC B H c (.buf t l) = .buf t l := rfl
theorem cnC_gone (B c : Nat) : cnC B H c .gone = .gone := rfl
theorem canC_mref (k : Option Nat) (ks : List (Option Nat)) (c : Nat) (r : List AV) : canC (k :: ks) (.mref c :: r) = .mref c :: canC ks r := rfl
theorem canA_mref (ks : List (Option Nat)) (c : Nat) : canA ks (.mref c) = .mref c := rfl
theorem pr_mref (c : Nat) (r : List AV) : prep H (.mref c :: r) = prK (.mref c) (prep H r) := by simp only [prep]; cases prep H r <;> rfl
theorem fz_mref (c : Nat) : freeze H (.mref c) = none := rfl
theorem ansM_f (v : IV) (zero : Option AV) : ansM false zero (some (some v)) = some (.i v) := rfl
theorem ansM_t (v : IV) (zero : Option AV) : ansM true zero (some (some v)) = some (.tup [.i v, .i (.v (.bool true))]) := rfl
theorem ansM_nf (z : IV) : ansM false (some (.i z)) (some none) = some (.i z) := rfl
theorem ansM_nt (z : IV) : ansM true (some (.i z)) (some none) = some (.tup [.i z, .i (.v (.bool false))]) := rfl
theorem lookC_int {t kt e : TypeId} (h0 : mapO E.P t = some (kt, e)) (hk : kindO E.P kt = some .i64) {z : AV} (hz : zeroO E.P e = some z) (n : Int) (ok : Bool) (es : List (IV × IV)) :
  lookC E t (.i (.v (.int .i64 n))) ok (some (.map es)) = ansM ok (some z) (findK (.v (.int .i64 n)) es) := by
 unfold lookC
 simp only [h0, keyOK, hk, decide_true, if_true, hz]
theorem lookC_str {t kt e : TypeId} (h0 : mapO E.P t = some (kt, e)) (hk : isStrO E.P kt = true) {z : AV} (hz : zeroO E.P e = some z) (s : List UInt8) (ok : Bool) (es : List (IV × IV)) :
  lookC E t (.i (.str s)) ok (some (.map es)) = ansM ok (some z) (findK (.str s) es) := by
 unfold lookC
 simp only [h0, keyOK, hk, if_true, hz]
def putR (H : Hp) (c : Nat) : Option (List (IV × IV)) → Option (AV × Hp)
 | some es => some (.dead, H.set c (.map es))
 | none => none
theorem putR_some (c : Nat) (es : List (IV × IV)) : putR H c (some es) = some (.dead, H.set c (.map es)) := rfl
theorem setC_int {t kt e : TypeId} (h0 : mapO E.P t = some (kt, e)) (hk : kindO E.P kt = some .i64) (n : Int) (x : IV) (c : Nat) (es : List (IV × IV)) :
  setC E H c t (.i (.v (.int .i64 n))) (.i x) (some (.map es)) = putR H c (putK (.v (.int .i64 n)) x es) := by
 unfold setC
 simp only [h0, keyOK, hk, decide_true, if_true]
 cases putK (.v (.int .i64 n)) x es <;> rfl
theorem setC_str {t kt e : TypeId} (h0 : mapO E.P t = some (kt, e)) (hk : isStrO E.P kt = true) (s : List UInt8) (x : IV) (c : Nat) (es : List (IV × IV)) :
  setC E H c t (.i (.str s)) (.i x) (some (.map es)) = putR H c (putK (.str s) x es) := by
 unfold setC
 simp only [h0, keyOK, hk, if_true]
 cases putK (.str s) x es <;> rfl
end
end Go.VI

set_option linter.unusedVariables false
namespace Go.VI
theorem ov_bool : ∀ a, ofVal (Value.bool a) = cellOf (Value.bool a) := fun _ => rfl
theorem co_bool : ∀ a, cellOf (Value.bool a) = .i (.v (Value.bool a)) := fun _ => rfl
theorem ov_int : ∀ a b, ofVal (Value.int a b) = cellOf (Value.int a b) := fun _ _ => rfl
theorem co_int : ∀ a b, cellOf (Value.int a b) = .i (.v (Value.int a b)) := fun _ _ => rfl
theorem ov_float : ∀ a b, ofVal (Value.float a b) = cellOf (Value.float a b) := fun _ _ => rfl
theorem co_float : ∀ a b, cellOf (Value.float a b) = .i (.v (Value.float a b)) := fun _ _ => rfl
theorem ov_complex : ∀ a b c, ofVal (Value.complex a b c) = cellOf (Value.complex a b c) := fun _ _ _ => rfl
theorem co_complex : ∀ a b c, cellOf (Value.complex a b c) = .i (.v (Value.complex a b c)) := fun _ _ _ => rfl
theorem ov_pointer : ∀ a, ofVal (Value.pointer a) = cellOf (Value.pointer a) := fun _ => rfl
theorem co_pointer : ∀ a, cellOf (Value.pointer a) = .i (.v (Value.pointer a)) := fun _ => rfl
theorem ov_map : ∀ a, ofVal (Value.map a) = cellOf (Value.map a) := fun _ => rfl
theorem co_map : ∀ a, cellOf (Value.map a) = .i (.v (Value.map a)) := fun _ => rfl
theorem ov_chan : ∀ a, ofVal (Value.chan a) = cellOf (Value.chan a) := fun _ => rfl
theorem co_chan : ∀ a, cellOf (Value.chan a) = .i (.v (Value.chan a)) := fun _ => rfl
theorem ov_func : ∀ a b c, ofVal (Value.func a b c) = cellOf (Value.func a b c) := fun _ _ _ => rfl
theorem co_func : ∀ a b c, cellOf (Value.func a b c) = .i (.v (Value.func a b c)) := fun _ _ _ => rfl
theorem ov_nilFunc : ofVal (Value.nilFunc) = cellOf (Value.nilFunc) := rfl
theorem co_nilFunc : cellOf (Value.nilFunc) = .i (.v (Value.nilFunc)) := rfl
theorem ov_iface : ∀ a b, ofVal (Value.iface a b) = cellOf (Value.iface a b) := fun _ _ => rfl
theorem co_iface : ∀ a b, cellOf (Value.iface a b) = .i (.v (Value.iface a b)) := fun _ _ => rfl
theorem ov_nilIface : ofVal (Value.nilIface) = cellOf (Value.nilIface) := rfl
theorem co_nilIface : cellOf (Value.nilIface) = .i (.v (Value.nilIface)) := rfl
theorem ov_string : ∀ a, ofVal (Value.string a) = cellOf (Value.string a) := fun _ => rfl
theorem ov_slice : ∀ a b c, ofVal (Value.slice a b c) = cellOf (Value.slice a b c) := fun _ _ _ => rfl
theorem ov_tuple : ∀ a, ofVal (Value.tuple a) = cellOf (Value.tuple a) := fun _ => rfl
theorem co_slice : ∀ a b c, cellOf (Value.slice (some a) b c) = .i (.v (Value.slice (some a) b c)) := fun _ _ _ => rfl
theorem cr_sl : ∀ a b c d ρ, Chunk.ren ρ (Chunk.sl a b c d) = (Chunk.sl a b c d) := fun _ _ _ _ _ => rfl
theorem cf_sl : ∀ a b c d, Chunk.refs (Chunk.sl a b c d) = [] := fun _ _ _ _ => rfl
theorem cr_fz : ∀ a b c d ρ, Chunk.ren ρ (Chunk.fz a b c d) = (Chunk.fz a b c d) := fun _ _ _ _ _ => rfl
theorem cf_fz : ∀ a b c d, Chunk.refs (Chunk.fz a b c d) = [] := fun _ _ _ _ => rfl
theorem cr_iter : ∀ a b ρ, Chunk.ren ρ (Chunk.iter a b) = (Chunk.iter a b) := fun _ _ _ => rfl
theorem cf_iter : ∀ a b, Chunk.refs (Chunk.iter a b) = [] := fun _ _ => rfl
theorem cr_map : ∀ a ρ, Chunk.ren ρ (Chunk.map a) = (Chunk.map a) := fun _ _ => rfl
theorem cf_map : ∀ a, Chunk.refs (Chunk.map a) = [] := fun _ => rfl
theorem cr_buf : ∀ a b ρ, Chunk.ren ρ (Chunk.buf a b) = (Chunk.buf a b) := fun _ _ _ => rfl
theorem cf_buf : ∀ a b, Chunk.refs (Chunk.buf a b) = [] := fun _ _ => rfl
theorem cr_gone : ∀  ρ, Chunk.ren ρ (Chunk.gone) = (Chunk.gone) := fun _ => rfl
theorem cf_gone : Chunk.refs (Chunk.gone) = [] := rfl
theorem if_move : ∀ a, isFresh (Op.move a) = false := fun _ => rfl
theorem if_assign : ∀ a, isFresh (Op.assign a) = false := fun _ => rfl
theorem if_pick : ∀ a b c, isFresh (Op.pick a b c) = false := fun _ _ _ => rfl
theorem if_build : ∀ a b, isFresh (Op.build a b) = false := fun _ _ => rfl
theorem if_insert : ∀ a b c d, isFresh (Op.insert a b c d) = false := fun _ _ _ _ => rfl
theorem if_load : ∀ a b, isFresh (Op.load a b) = false := fun _ _ => rfl
theorem if_store : ∀ a b c, isFresh (Op.store a b c) = false := fun _ _ _ => rfl
theorem if_ready : ∀ a, isFresh (Op.ready a) = false := fun _ => rfl
theorem if_waits : ∀ a, isFresh (Op.waits a) = false := fun _ => rfl
theorem if_nilCheck : ∀ a, isFresh (Op.nilCheck a) = false := fun _ => rfl
theorem if_binOp : ∀ a b c d e, isFresh (Op.binOp a b c d e) = false := fun _ _ _ _ _ => rfl
theorem if_unOp : ∀ a b c, isFresh (Op.unOp a b c) = false := fun _ _ _ => rfl
theorem if_convert : ∀ a b c, isFresh (Op.convert a b c) = false := fun _ _ _ => rfl
theorem if_sliceToArrayPointer : ∀ a b, isFresh (Op.sliceToArrayPointer a b) = false := fun _ _ => rfl
theorem if_makeInterface : ∀ a b, isFresh (Op.makeInterface a b) = false := fun _ _ => rfl
theorem if_makeFunc : ∀ a b c, isFresh (Op.makeFunc a b c) = false := fun _ _ _ => rfl
theorem if_makeMap : ∀ a b, isFresh (Op.makeMap a b) = false := fun _ _ => rfl
theorem if_makeChan : ∀ a b, isFresh (Op.makeChan a b) = false := fun _ _ => rfl
theorem if_slice : ∀ a b c d e, isFresh (Op.slice a b c d e) = false := fun _ _ _ _ _ => rfl
theorem if_fieldAddr : ∀ a b c, isFresh (Op.fieldAddr a b c) = false := fun _ _ _ => rfl
theorem if_field : ∀ a b c, isFresh (Op.field a b c) = false := fun _ _ _ => rfl
theorem if_indexAddr : ∀ a b c, isFresh (Op.indexAddr a b c) = false := fun _ _ _ => rfl
theorem if_index : ∀ a b c, isFresh (Op.index a b c) = false := fun _ _ _ => rfl
theorem if_lookup : ∀ a b c d, isFresh (Op.lookup a b c d) = false := fun _ _ _ _ => rfl
theorem if_mapUpdate : ∀ a b c d, isFresh (Op.mapUpdate a b c d) = false := fun _ _ _ _ => rfl
theorem if_mapEntry : ∀ a b c, isFresh (Op.mapEntry a b c) = false := fun _ _ _ => rfl
theorem if_entryStore : ∀ a b c d, isFresh (Op.entryStore a b c d) = false := fun _ _ _ _ => rfl
theorem if_range : ∀ a b, isFresh (Op.range a b) = false := fun _ _ => rfl
theorem if_next : ∀ a b, isFresh (Op.next a b) = false := fun _ _ => rfl
theorem if_entry : ∀ a, isFresh (Op.entry a) = false := fun _ => rfl
theorem if_typeAssert : ∀ a b c d, isFresh (Op.typeAssert a b c d) = false := fun _ _ _ _ => rfl
theorem if_extract : ∀ a b, isFresh (Op.extract a b) = false := fun _ _ => rfl
theorem if_call : ∀ a, isFresh (Op.call a) = false := fun _ => rfl
theorem on_dead : one (AV.dead) = false := rfl
theorem on_agg : ∀ a, one (AV.agg a) = false := fun _ => rfl
theorem on_tup : ∀ a, one (AV.tup a) = false := fun _ => rfl
theorem ca_dead : cellsA (AV.dead) = [(AV.dead)] := rfl
theorem ca_i : ∀ a, cellsA (AV.i a) = [(AV.i a)] := fun _ => rfl
theorem ca_ref : ∀ a b c d, cellsA (AV.ref a b c d) = [(AV.ref a b c d)] := fun _ _ _ _ => rfl
theorem ca_ptr : ∀ a b c d, cellsA (AV.ptr a b c d) = [(AV.ptr a b c d)] := fun _ _ _ _ => rfl
theorem ca_mref : ∀ a, cellsA (AV.mref a) = [(AV.mref a)] := fun _ => rfl
theorem ca_clo : ∀ a b c, cellsA (AV.clo a b c) = [(AV.clo a b c)] := fun _ _ _ => rfl
theorem ca_tup : ∀ a, cellsA (AV.tup a) = [(AV.tup a)] := fun _ => rfl
theorem fr_skip : firstRegion (Code.skip) = none := rfl
theorem fr_exit : ∀ a, firstRegion (Code.exit a) = none := fun _ => rfl
theorem fr_label : ∀ a, firstRegion (Code.label a) = none := fun _ => rfl
theorem fr_goto : ∀ a, firstRegion (Code.goto a) = none := fun _ => rfl
theorem fr_ret : firstRegion (Code.ret) = none := rfl
theorem evL_len (E : Env) (fr : Fr) (H : Hp) (x : Operand) (t : TypeId) : evL E fr H (.call ⟨.builtin .len, #[x], #[t]⟩) = if isStrO E.P t = true ∨ (slO E.P t).isSome = true then match opd E fr x with
   | .i (.str l) => if isStrO E.P t = true then some (.int .i64 l.length) else none
   | .i (.sl _ rows _) => if isStrO E.P t = true then none else some (.int .i64 rows.length)
   | .ref _ _ _ len => if isStrO E.P t = true then none else some (.int .i64 len)
   | _ => none
   else none := rfl
theorem evH_app (E : Env) (fr : Fr) (H : Hp) (s x : Operand) (t t2 : TypeId) : evH E fr H (.call ⟨.builtin .append, #[s, x], #[t, t2]⟩) = appendE E H t t2 (opd E fr s) (opd E fr x) := rfl
def nextA (H : Hp) : AV → Option (AV × Hp)
 | .ptr c _ _ 0 => match H[c]? with
  | some (.iter s pos) => if pos < s.length then
    some (.tup [.bool true, .int .i64 pos, .int .i32 (Utf8.decode ⟨⟨s⟩⟩ pos).1], H.set c (.iter s (pos + (Utf8.decode ⟨⟨s⟩⟩ pos).2))) else some (.tup [.bool false], H)
  | _ => none
 | _ => none
theorem evH_next (E : Env) (fr : Fr) (H : Hp) (it : Operand) : evH E fr H (.next it true) = nextA H (opd E fr it) := by
 unfold nextA
 simp only [evH]
 split
 ·rename_i h; rw [h]; rfl
 ·rename_i h
  split
  ·rename_i c g r hh; exact absurd hh (h c g r rfl)
  ·rfl
theorem nextA_ptr (H : Hp) (c g r : Nat) : nextA H (.ptr c g r 0) = match H[c]? with
  | some (.iter s pos) => if pos < s.length then
    some (.tup [.bool true, .int .i64 pos, .int .i32 (Utf8.decode ⟨⟨s⟩⟩ pos).1], H.set c (.iter s (pos + (Utf8.decode ⟨⟨s⟩⟩ pos).2))) else some (.tup [.bool false], H)
  | _ => none := rfl
end Go.VI

set_option linter.unusedVariables false
set_option linter.defProp false
namespace Go.VI
def va0 := And.intro @execT_seq (And.intro @execT_region (And.intro @execT_cond (And.intro @execT_block (And.intro @execT_exit (And.intro @execT_ret (And.intro @execT_skip (And.intro @execT_label (And.intro @execT_scope (And.intro @seqK_n (And.intro @seqK_e (And.intro @seqK_r (And.intro @regK_some (And.intro @regTK_some (And.intro @condK_t (And.intro @condK_f (And.intro @blockK_n (And.intro @blockK_r (And.intro @blockK_e (@endK_r)))))))))))))))))))
def va1 := And.intro @endK_n (And.intro @endR_some (And.intro @resE_eq (And.intro @resEs_nil (And.intro @resEs_cons (And.intro @resE1_t (And.intro @resE1_c (And.intro @consK_some (And.intro @tupK_1 (And.intro @tupK_2 (And.intro @evOps_nil (And.intro @evOps_cons (And.intro @evOps_guard (And.intro @opK_some (And.intro @guK_t (And.intro @guK_f (And.intro @gV_b (And.intro @gV_u (And.intro @evT_nil (@evT_cons)))))))))))))))))))
def va2 := And.intro @evT_guard (And.intro @tK_some (And.intro @opT_some (And.intro @guT_t (And.intro @guT_f (And.intro @pK_some (And.intro @op_move (And.intro @op_assign (And.intro @op_pick (And.intro @pickK_bb (And.intro @pickK_t (And.intro @pickK_f (And.intro @op_load (And.intro @op_bin (And.intro @op_un (And.intro @op_slice (And.intro @op_slice3 (And.intro @s3K_some (And.intro @op_index (@op_indexAddr)))))))))))))))))))
def va3 := And.intro @op_field (And.intro @op_build (And.intro @op_makeFunc (And.intro @op_nil (And.intro @op_extract (And.intro @op_fieldAddr (And.intro @op_len (And.intro @op_max (And.intro @op_min (And.intro @op_append (And.intro @op_range (And.intro @op_nx (And.intro @nxA_ptr (And.intro @nxK_iter (And.intro @op_alloc (And.intro @op_box (And.intro @op_buildSlice (And.intro @op_store (And.intro @stK_some (@op_makeSlice)))))))))))))))))))
def va4 := And.intro @op_call (And.intro @clK_f (And.intro @caK_t (And.intro @touch_call (And.intro @touch_bi (And.intro @touch_load (And.intro @touch_ia (And.intro @touch_slice (And.intro @touch_store (And.intro @touch_bs (And.intro @touch_move (And.intro @touch_assign (And.intro @touch_pick (And.intro @touch_bin (And.intro @touch_un (And.intro @touch_conv (And.intro @touch_range (And.intro @touch_next (And.intro @touch_mf (@touch_field)))))))))))))))))))
def va5 := And.intro @touch_fa (And.intro @touch_ix (And.intro @touch_ex (And.intro @touch_nil (And.intro @touch_bd (And.intro @touch_alloc (And.intro @touch_box (And.intro @touch_ms (And.intro @tcK_f (And.intro @crK_some (And.intro @reach_nil (And.intro @reach_cons (And.intro @gc_T (And.intro @rlG_mk (And.intro @rg0 (And.intro @rg1 (And.intro @rg2 (And.intro @rg3 (And.intro @rg4 (@rg5)))))))))))))))))))
def va6 := And.intro @evD_nil (And.intro @evD_op (And.intro @evD_guard (And.intro @opD_some (And.intro @guD_t (And.intro @guD_f (And.intro @putH_hole (And.intro @norm_nil (And.intro @norm_cons (And.intro @be_ii (And.intro @be_ss (And.intro @be_bb (And.intro @be_bn (And.intro @be_pn (And.intro @be_pnn (And.intro @be_tn (And.intro @be_tnn (And.intro @be_nn (And.intro @be_nnn (@prepK_some)))))))))))))))))))
def va7 := And.intro @peP_some (And.intro @brK_some (And.intro @tupK_0 (And.intro @pr_nil (And.intro @pr_i (And.intro @pr_dead (And.intro @pr_ptr (And.intro @pr_clo (And.intro @pr_tup (And.intro @pr_ref (And.intro @pr_agg (And.intro @prK_some (And.intro @prF_some (And.intro @prG_some (And.intro @prG_none (And.intro @fz_i (And.intro @fz_ref (And.intro @fz_ptr (And.intro @fz_clo (@fzK_sl)))))))))))))))))))
def va8 := And.intro @fzK_fz (And.intro @faK_some (And.intro @faK_none (And.intro @faF_some (And.intro @faF_none (And.intro @fa_nil (And.intro @fa_cons (And.intro @fa_map (And.intro @retE_tup (And.intro @retE_i (And.intro @retE_agg (And.intro @retE_ref (And.intro @retE_ptr (And.intro @retE_clo (And.intro @retL_eq (And.intro @rtK_f (And.intro @rtK_t (And.intro @rtP_some (And.intro @ret1_some (@retN_some)))))))))))))))))))
def va9 := And.intro @canI_n (And.intro @canI_v (And.intro @canI_str (And.intro @canI_pt (And.intro @canI_sl (And.intro @canI_nil (And.intro @canR_nil (And.intro @canR_e (And.intro @canR_cons (And.intro @canC_nil (And.intro @canC_e (And.intro @canC_i (And.intro @canC_ref (And.intro @canC_ptr (And.intro @canC_clo (And.intro @canA_i (And.intro @canA_i0 (And.intro @canA_agg (And.intro @canA_ref (@canA_ptr)))))))))))))))))))
def va10 := And.intro @canA_clo (And.intro @canA_tup (And.intro @canLs_nil (And.intro @canLs_e (And.intro @canLs_cons (And.intro @matV_nil (And.intro @matV_false (And.intro @matV_ref (And.intro @mat1_z (And.intro @mat1_n (And.intro @mat1_0 (And.intro @mat1_2 (And.intro @matL_nil (And.intro @matL_e (And.intro @matL_cons (And.intro @matF_nil (And.intro @matF_cons (And.intro @matB_nil (And.intro @matB_cons (@matB2_ptr)))))))))))))))))))
def va11 := And.intro @matB1_box (And.intro @matB3_some (And.intro @frzF_nil (And.intro @frzF_cons (And.intro @frz1_some (And.intro @cnA_i (And.intro @cnA_dead (And.intro @cnA_agg (And.intro @cnA_tup (And.intro @cnA_clo (And.intro @cnA_ref (And.intro @cnA_ptr (And.intro @cnRef_sl (And.intro @cnRef_fz (And.intro @cnPtr_sl (And.intro @cnPtr_fz (And.intro @cnPtr_box (And.intro @cnPtr_iter (And.intro @cnL_nil (@cnL_cons)))))))))))))))))))
def va12 := And.intro @cnC_box (And.intro @cnC_sl (And.intro @cnC_fz (And.intro @cnC_iter (And.intro @cnHs_nil (And.intro @cnHs_cons (And.intro @cnF_nil (And.intro @cnF_cons (And.intro @gcn_eq (And.intro @rlM_eq (And.intro @nc1 (And.intro @cvK_str (And.intro @u8_eq (And.intro @slSK_some (And.intro @bnd_n (And.intro @bnd_i (And.intro @slN_i (And.intro @slN_ref (And.intro @slN1_some (@slN2_sl)))))))))))))))))))
def va13 := And.intro @slN2_fz (And.intro @cvS_some (And.intro @rowsE_i (And.intro @rowsE_ref (And.intro @numsOf_nil (And.intro @numsOf_cons (And.intro @numsOf_bytes (And.intro @bytes_back (And.intro @apS_some (And.intro @apV_i (And.intro @apV_ref (And.intro @apC_sl (And.intro @apC_fz (And.intro @src_str (And.intro @src_sl (And.intro @src_ref (And.intro @rsC_sl (And.intro @rsC_fz (And.intro @bsF_some (@bsG_some)))))))))))))))))))
def va14 := And.intro @stC_box (And.intro @stC_sl (And.intro @stF_some (And.intro @stG_sl (And.intro @stR_some (And.intro @set_concat (And.intro @aggK_some (And.intro @fillS_nil (And.intro @fillS_cons (And.intro @fsK_some (And.intro @rdK_n (And.intro @rdJ_some (And.intro @rgE_nil (And.intro @rgE_cons (And.intro @rgN_n (And.intro @rgN_r (And.intro @rgN_e (And.intro @rgO_some (And.intro @capsI_nil (@capsI_ptr)))))))))))))))))))
def va15 := And.intro @cpK_box (And.intro @cpJ_some (And.intro @intsOf_nil (And.intro @intsOf_cons (And.intro @seqE_clo (And.intro @sqK_some (And.intro @sqM_some (And.intro @touch_lk (And.intro @touch_mu (And.intro @touch_mm (And.intro @op_lk (And.intro @mmK_some (And.intro @op_mm (And.intro @op_mu (And.intro @lookA_m (And.intro @lookA_i (And.intro @setM_m (And.intro @cnA_mref (And.intro @cnC_map (@cnC_tb)))))))))))))))))))
def va16 := And.intro @cnC_buf (And.intro @cnC_gone (And.intro @canC_mref (And.intro @canA_mref (And.intro @pr_mref (And.intro @fz_mref (And.intro @ansM_f (And.intro @ansM_t (And.intro @ansM_nf (And.intro @ansM_nt (@putR_some))))))))))
def vb0 := And.intro @List.flatMap_cons.{0, 0} (And.intro @List.flatMap_nil.{0, 0} (And.intro @List.filter_cons.{0} (And.intro @List.filter_nil.{0} (And.intro @List.mem_cons.{0} (And.intro @List.not_mem_nil.{0} (And.intro @List.replicate_zero.{0} (And.intro @List.replicate_succ.{0} (And.intro @List.foldl_cons.{0, 0} (And.intro @List.foldl_nil.{0, 0} (And.intro @List.toList_toArray.{0} (And.intro @List.getElem?_cons_zero.{0} (And.intro @List.getElem?_cons_succ.{0} (And.intro @List.getElem?_toArray.{0} (And.intro @Option.map_some.{0, 0} (And.intro @Option.map_none.{0, 0} (And.intro @Option.bind_some.{0, 0} (And.intro @Option.bind_none.{0, 0} (And.intro @Option.getD_some.{0} (@Option.getD_none.{0})))))))))))))))))))
def vb1 := And.intro @Option.isSome_some.{0} (And.intro @Option.isSome_none.{0} (And.intro @Option.isNone_none.{0} (And.intro @Bool.false_eq_true (And.intro @List.all_nil.{0} (And.intro @List.all_cons.{0} (And.intro @List.cons_append.{0} (And.intro @List.nil_append.{0} (And.intro @List.append_nil.{0} (And.intro @Bool.and_true (And.intro @Bool.true_and (And.intro @Bool.and_false (And.intro @Bool.false_and (And.intro @Bool.or_true (And.intro @Bool.true_or (And.intro @Bool.or_false (And.intro @Bool.false_or (And.intro @Bool.not_true (And.intro @Bool.not_false (@List.getD_cons_zero.{0})))))))))))))))))))
def vb2 := And.intro @List.getD_cons_succ.{0} (And.intro @Nat.add_zero (And.intro @Nat.zero_add (And.intro @List.length_cons.{0} (And.intro @List.length_nil.{0} (And.intro @List.length_map.{0, 0} (And.intro @Nat.sub_self (And.intro @List.range'_zero (And.intro @List.range'_one (And.intro @Nat.lt_irrefl (And.intro @Nat.le_refl (And.intro @Int.toNat_natCast (And.intro @Nat.zero_lt_succ (And.intro @Int.natCast_nonneg (And.intro @List.drop_zero.{0} (And.intro @List.contains_nil.{0} (And.intro @List.contains_cons.{0} (And.intro @List.elem_nil.{0} (And.intro @List.cons.injEq.{0} (@Int.cast_ofNat_Int)))))))))))))))))))
def vb3 := And.intro @List.getElem?_nil.{0} (And.intro @Option.some.injEq.{0} (And.intro @List.append_eq.{0} (And.intro @List.set_cons_zero.{0} (And.intro @List.set_cons_succ.{0} (And.intro @List.set_nil.{0} (And.intro @List.length_set.{0} (And.intro @List.length_append.{0} (And.intro @List.getElem?_map.{0, 0} (And.intro @Bool.cond_true_left (And.intro @Bool.cond_false_right (And.intro @Bool.cond_false_left (And.intro @Bool.cond_true_right (And.intro @Int.not_lt (And.intro @Int.not_le (And.intro @UInt8.ofNat_toNat (And.intro @Classical.not_not (And.intro @List.flatten_cons.{0} (And.intro @List.flatten_nil.{0} (@List.getElem?_concat_length.{0})))))))))))))))))))
end Go.VI

set_option linter.unusedSimpArgs false
set_option linter.unusedVariables false
namespace Go.VI

end Go.VI

