/- VI, part 19: the equations by which code is evaluated: each fires only where what it asks is known. -/
import Derived.Test.YtcifhkdbaienjaaVI18
set_option linter.unusedSimpArgs false
set_option linter.unusedVariables false
namespace Go.VI
section
variable {E : Env} {cl : CallF} {ops : List Oper} {fr : Fr} {H : Hp} {f : FuncId}

def opK (E : Env) (cl : CallF) (ops : List Oper) (dst : Option Nat) (r : List Oper) (fr : Fr) : Option (AV × Hp) → Option (Fr × Hp)
  | some (v, H') => evOps E cl ops r (putD dst v fr) H'
  | none => none
def gV (want : Bool) : AV → Option Bool
  | .i (.v (.bool b)) => some (b == want)
  | .tup [] => some false
  | _ => none
def gB (ops : List Oper) (fr : Fr) (j : Nat) (want : Bool) : Option Bool :=
  match (ops[j]?).bind (·.dst) with
  | some d => gV want (get d fr)
  | none => none
def guK (E : Env) (cl : CallF) (ops : List Oper) (dst : Option Nat) (op : Op) (r : List Oper) (fr : Fr) (H : Hp) : Option Bool → Option (Fr × Hp)
  | some true => opK E cl ops dst r fr (evOp E cl op fr H)
  | some false => evOps E cl ops r (putD dst (.tup []) fr) H
  | none => none
theorem opK_some (dst : Option Nat) (r : List Oper) (v : AV) (H' : Hp) : opK E cl ops dst r fr (some (v, H')) = evOps E cl ops r (putD dst v fr) H' := rfl
theorem guK_t (dst : Option Nat) (op : Op) (r : List Oper) : guK E cl ops dst op r fr H (some true) = opK E cl ops dst r fr (evOp E cl op fr H) := rfl
theorem guK_f (dst : Option Nat) (op : Op) (r : List Oper) : guK E cl ops dst op r fr H (some false) = evOps E cl ops r (putD dst (.tup []) fr) H := rfl
theorem gV_b (b want : Bool) : gV want (.i (.v (.bool b))) = some (b == want) := rfl
theorem gV_u (want : Bool) : gV want (.tup []) = some false := rfl
theorem gB_of {j d : Nat} {o : Oper} (want : Bool) (h : ops[j]? = some o) (hd : o.dst = some d) : gB ops fr j want = gV want (get d fr) := by simp [gB, h, hd]
theorem evOps_nil : evOps E cl ops [] fr H = some (fr, H) := rfl
theorem evOps_cons (dst : Option Nat) (op : Op) (ty : TypeId) (pos : String) (af : Array Edge) (r : List Oper) : evOps E cl ops (⟨dst, op, ty, pos, af, none⟩ :: r) fr H = opK E cl ops dst r fr (evOp E cl op fr H) := by
  simp only [evOps, guardE]
  cases evOp E cl op fr H with
  | none => rfl
  | some x => rfl
theorem guard_gB (dst : Option Nat) (op : Op) (ty : TypeId) (pos : String) (af : Array Edge) (j : Nat) (w : Bool) : guardE ops fr ⟨dst, op, ty, pos, af, some (j, w)⟩ = gB ops fr j w := by
  simp only [guardE, gB]
  cases (ops[j]?).bind (·.dst) with
  | none => rfl
  | some d => simp only [gV]; rfl
theorem evOps_guard (dst : Option Nat) (op : Op) (ty : TypeId) (pos : String) (af : Array Edge) (j : Nat) (w : Bool) (r : List Oper) : evOps E cl ops (⟨dst, op, ty, pos, af, some (j, w)⟩ :: r) fr H = guK E cl ops dst op r fr H (gB ops fr j w) := by
  simp only [evOps, guard_gB]
  cases gB ops fr j w with
  | none => rfl
  | some b =>
    cases b with
    | false => rfl
    | true =>
      simp only [guK]
      cases evOp E cl op fr H with
      | none => rfl
      | some x => rfl

/-! regions that draw -/
def tK (t : List Nat) : Option (Fr × Hp × List (List Nat)) → Option (Fr × Hp × List (List Nat))
  | some (fr2, H2, ts) => some (fr2, H2, t :: ts)
  | none => none
def opT (E : Env) (cl : CallF) (ops : List Oper) (dst : Option Nat) (op : Op) (r : List Oper) (fr : Fr) (H : Hp) : Option (AV × Hp) → Option (Fr × Hp × List (List Nat))
  | some (v, H') => tK (touch E fr H op ++ List.range' H.length (H'.length - H.length)) (evT E cl ops r (putD dst v fr) H')
  | none => none
def guT (E : Env) (cl : CallF) (ops : List Oper) (dst : Option Nat) (op : Op) (r : List Oper) (fr : Fr) (H : Hp) : Option Bool → Option (Fr × Hp × List (List Nat))
  | some true => opT E cl ops dst op r fr H (evOp E cl op fr H)
  | some false => tK [] (evT E cl ops r (putD dst (.tup []) fr) H)
  | none => none
theorem tK_some (t : List Nat) (fr2 : Fr) (H2 : Hp) (ts : List (List Nat)) : tK t (some (fr2, H2, ts)) = some (fr2, H2, t :: ts) := rfl
theorem opT_some (dst : Option Nat) (op : Op) (r : List Oper) (v : AV) (H' : Hp) : opT E cl ops dst op r fr H (some (v, H')) = tK (touch E fr H op ++ List.range' H.length (H'.length - H.length)) (evT E cl ops r (putD dst v fr) H') := rfl
theorem guT_t (dst : Option Nat) (op : Op) (r : List Oper) : guT E cl ops dst op r fr H (some true) = opT E cl ops dst op r fr H (evOp E cl op fr H) := rfl
theorem guT_f (dst : Option Nat) (op : Op) (r : List Oper) : guT E cl ops dst op r fr H (some false) = tK [] (evT E cl ops r (putD dst (.tup []) fr) H) := rfl
theorem evT_nil : evT E cl ops [] fr H = some (fr, H, []) := rfl
theorem evT_cons (dst : Option Nat) (op : Op) (ty : TypeId) (pos : String) (af : Array Edge) (r : List Oper) : evT E cl ops (⟨dst, op, ty, pos, af, none⟩ :: r) fr H = opT E cl ops dst op r fr H (evOp E cl op fr H) := by
  simp only [evT, stp, guardE]
  cases evOp E cl op fr H with
  | none => rfl
  | some x => simp only [opT, tK]; rfl
theorem evT_guard (dst : Option Nat) (op : Op) (ty : TypeId) (pos : String) (af : Array Edge) (j : Nat) (w : Bool) (r : List Oper) : evT E cl ops (⟨dst, op, ty, pos, af, some (j, w)⟩ :: r) fr H = guT E cl ops dst op r fr H (gB ops fr j w) := by
  simp only [evT, stp, guard_gB]
  cases gB ops fr j w with
  | none => rfl
  | some b =>
    cases b with
    | false => simp only [guT, tK]; rfl
    | true =>
      simp only [guT]
      cases evOp E cl op fr H with
      | none => rfl
      | some x => simp only [opT, tK]; rfl

/-! regions with places set aside -/
def opD (E : Env) (cl : CallF) (ops : List Oper) (c : Nat) (dst : Option Nat) (op : Op) (r : List Oper) (fr : Fr) (H : Hp) : Option (AV × Hp) → Option (Fr × Hp × List (List Nat))
  | some (v, H') => tK (touchD E c fr H op ++ List.range' H.length (H'.length - H.length)) (evD E cl ops (stepC c op) r (putD dst v fr) H')
  | none => none
def guD (E : Env) (cl : CallF) (ops : List Oper) (c : Nat) (dst : Option Nat) (op : Op) (r : List Oper) (fr : Fr) (H : Hp) : Option Bool → Option (Fr × Hp × List (List Nat))
  | some true => opD E cl ops c dst op r fr H (evOpD E cl c op fr H)
  | some false => tK [] (evD E cl ops (stepC c op) r (putD dst (.tup []) fr) H)
  | none => none
theorem opD_some (c : Nat) (dst : Option Nat) (op : Op) (r : List Oper) (v : AV) (H' : Hp) : opD E cl ops c dst op r fr H (some (v, H')) = tK (touchD E c fr H op ++ List.range' H.length (H'.length - H.length)) (evD E cl ops (stepC c op) r (putD dst v fr) H') := rfl
theorem guD_t (c : Nat) (dst : Option Nat) (op : Op) (r : List Oper) : guD E cl ops c dst op r fr H (some true) = opD E cl ops c dst op r fr H (evOpD E cl c op fr H) := rfl
theorem guD_f (c : Nat) (dst : Option Nat) (op : Op) (r : List Oper) : guD E cl ops c dst op r fr H (some false) = tK [] (evD E cl ops (stepC c op) r (putD dst (.tup []) fr) H) := rfl
theorem guD_dec (c : Nat) (dst : Option Nat) (op : Op) (r : List Oper) (p : Prop) [Decidable p] : guD E cl ops c dst op r fr H (some (decide p)) = if p then opD E cl ops c dst op r fr H (evOpD E cl c op fr H) else tK [] (evD E cl ops (stepC c op) r (putD dst (.tup []) fr) H) := by by_cases h : p <;> simp [h, guD]
theorem guD_b (c : Nat) (dst : Option Nat) (op : Op) (r : List Oper) (b : Bool) : guD E cl ops c dst op r fr H (some b) = if b = true then opD E cl ops c dst op r fr H (evOpD E cl c op fr H) else tK [] (evD E cl ops (stepC c op) r (putD dst (.tup []) fr) H) := by cases b <;> rfl
theorem evD_nil (c : Nat) : evD E cl ops c [] fr H = some (fr, H, []) := rfl
theorem evD_op (c : Nat) (dst : Option Nat) (op : Op) (ty : TypeId) (pos : String) (af : Array Edge) (r : List Oper) : evD E cl ops c (⟨dst, op, ty, pos, af, none⟩ :: r) fr H = opD E cl ops c dst op r fr H (evOpD E cl c op fr H) := by
  simp only [evD, guardE]
  cases evOpD E cl c op fr H with
  | none => rfl
  | some x => simp only [opD, tK]; rfl
theorem evD_guard (c : Nat) (dst : Option Nat) (op : Op) (ty : TypeId) (pos : String) (af : Array Edge) (j : Nat) (w : Bool) (r : List Oper) : evD E cl ops c (⟨dst, op, ty, pos, af, some (j, w)⟩ :: r) fr H = guD E cl ops c dst op r fr H (gB ops fr j w) := by
  simp only [evD, guard_gB]
  cases gB ops fr j w with
  | none => rfl
  | some b =>
    cases b with
    | false => simp only [guD, tK]; rfl
    | true =>
      simp only [guD]
      cases evOpD E cl c op fr H with
      | none => rfl
      | some x => simp only [opD, tK]; rfl
theorem putH_hole (c : Nat) (r : Option (Option Nat × Chunk)) : putH c H r (some (.sl 0 0 [] true)) = match r with | some (k, ch) => some (mkR c k, H.set c ch) | none => none := rfl

/-! what a call touches -/
def crK (args : List AV) : Option (List AV × Hp) → List Nat
  | some (as, H1) => refsL args ++ reach H1 64 (refsL as) []
  | none => []
theorem crK_some (args as : List AV) (H1 : Hp) : crK args (some (as, H1)) = refsL args ++ reach H1 64 (refsL as) [] := rfl
theorem cr_prep {f : FuncId} (args : List AV) : calleeR E f args H = crK args (prepE E f H args) := by
  unfold calleeR crK; cases prepE E f H args <;> rfl
theorem reach_nil (n : Nat) (seen : List Nat) : reach H n [] seen = seen := by cases n <;> rfl
def tcK (E : Env) (H : Hp) (args : List AV) : AV → List Nat
  | .clo (.func g) first caps => calleeR E g (first ++ args ++ caps) H
  | _ => []
theorem tcK_f (args : List AV) (g : Nat) (first caps : List AV) : tcK E H args (.clo (.func g) first caps) = calleeR E g (first ++ args ++ caps) H := rfl
theorem touch_call (x : Operand) (args : Array Operand) (tys : Array TypeId) : touch E fr H (.call ⟨.value x, args, tys⟩) = tcK E H (args.toList.map (opd E fr)) (opd E fr x) := by
  simp only [touch, calleeE, tcK]
  split
  · rename_i g as hg
    split at hg
    · rename_i g' first caps hx
      simp only [Option.some.injEq, Prod.mk.injEq] at hg
      obtain ⟨rfl, rfl⟩ := hg
      rw [hx]
    · cases hg
  · rename_i hg
    split at hg
    · cases hg
    · rename_i hne
      split
      · rename_i g first caps hx; exact absurd hx (hne _ _ _)
      · rfl
theorem touch_bi (b : Builtin) (args : Array Operand) (tys : Array TypeId) : touch E fr H (.call ⟨.builtin b, args, tys⟩) = refsL (args.toList.map (opd E fr)) := rfl
theorem touch_load (t : TypeId) (x : Operand) : touch E fr H (.load t x) = refsA (opd E fr x) := rfl
theorem touch_ia (t : TypeId) (x i : Operand) : touch E fr H (.indexAddr t x i) = refsA (opd E fr x) := rfl
theorem touch_slice (t : TypeId) (x : Operand) (lo hi mx : Option Operand) : touch E fr H (.slice t x lo hi mx) = refsA (opd E fr x) := rfl
theorem touch_store (t : TypeId) (a x : Operand) : touch E fr H (.store t a x) = refsA (opd E fr a) ++ refsA (opd E fr x) := rfl
theorem touch_bs (t : TypeId) (n : Nat) (ps : Array (Nat × Operand)) : touch E fr H (.buildSlice t n ps) = buildRefs E t n (ps.toList.map fun p => (p.1, opd E fr p.2)) := rfl

theorem touch_move (x : Operand) : touch E fr H (.move x) = [] := rfl
theorem touch_assign (x : Operand) : touch E fr H (.assign x) = [] := rfl
theorem touch_pick (a b c : Operand) : touch E fr H (.pick a b c) = [] := rfl
theorem touch_bin (op : BinOp) (t u : TypeId) (x y : Operand) : touch E fr H (.binOp op t x y u) = [] := rfl
theorem touch_un (op : UnOp) (t : TypeId) (x : Operand) : touch E fr H (.unOp op t x) = [] := rfl
theorem touch_conv (s d : TypeId) (x : Operand) : touch E fr H (.convert s d x) = refsA (opd E fr x) := rfl
theorem touch_range (t : TypeId) (x : Operand) : touch E fr H (.range t x) = [] := rfl
theorem touch_next (it : Operand) (b : Bool) : touch E fr H (.next it b) = refsA (opd E fr it) := rfl
theorem touch_mf (fn : Fn) (a b : Array Operand) : touch E fr H (.makeFunc fn a b) = [] := rfl
theorem touch_field (t : TypeId) (x : Operand) (k : Nat) : touch E fr H (.field t x k) = [] := rfl
theorem touch_fa (t : TypeId) (x : Operand) (k : Nat) : touch E fr H (.fieldAddr t x k) = [] := rfl
theorem touch_ix (t : TypeId) (x y : Operand) : touch E fr H (.index t x y) = [] := rfl
theorem touch_ex (x : Operand) (n : Nat) : touch E fr H (.extract x n) = [] := rfl
theorem touch_nil (x : Operand) : touch E fr H (.nilCheck x) = [] := rfl
theorem touch_bd (t : TypeId) (ps : Array (Nat × Operand)) : touch E fr H (.build t ps) = [] := rfl
theorem touch_alloc (t : TypeId) : touch E fr H (.alloc t) = [] := rfl
theorem touch_box (t : TypeId) (x : Operand) : touch E fr H (.box t x) = [] := rfl
theorem touch_ms (t : TypeId) (x y : Operand) : touch E fr H (.makeSlice t x y) = [] := rfl

/-! code -/
theorem seqK_n (k : Fr → Hp → Option (Ex × Fr × Hp)) (fr' : Fr) (H' : Hp) : seqK k (some (.normal, fr', H')) = k fr' H' := rfl
theorem seqK_e (k : Fr → Hp → Option (Ex × Fr × Hp)) (id : Nat) (fr' : Fr) (H' : Hp) : seqK k (some (.exit id, fr', H')) = some (.exit id, fr', H') := rfl
theorem seqK_r (k : Fr → Hp → Option (Ex × Fr × Hp)) (fr' : Fr) (H' : Hp) : seqK k (some (.ret, fr', H')) = some (.ret, fr', H') := rfl
theorem regK_some (id : Nat) (fr' : Fr) (H' : Hp) : regK E f id (some (fr', H')) = some (.normal, norm (E.keep f id) fr', H') := rfl
theorem regTK_some (id : Nat) (fr' : Fr) (H' : Hp) (tr : List (List Nat)) : regTK E f id (some (fr', H', tr)) = if (E.flo f id).all (floatOk tr) = true then some (.normal, norm (E.keep f id) fr', H') else none := rfl
theorem condK_t (a b : Option (Ex × Fr × Hp)) : condK (.i (.v (.bool true))) a b = a := rfl
theorem condK_f (a b : Option (Ex × Fr × Hp)) : condK (.i (.v (.bool false))) a b = b := rfl
theorem blockK_n (id : Nat) (fr' : Fr) (H' : Hp) : blockK id (some (.normal, fr', H')) = some (.normal, fr', H') := rfl
theorem blockK_r (id : Nat) (fr' : Fr) (H' : Hp) : blockK id (some (.ret, fr', H')) = some (.ret, fr', H') := rfl
theorem blockK_e (id j : Nat) (fr' : Fr) (H' : Hp) : blockK id (some (.exit j, fr', H')) = if j = id then some (.normal, fr', H') else some (.exit j, fr', H') := rfl
def endR (E : Env) (f : FuncId) (B : Nat) (H : Hp) : Option AV → Option (AV × Hp)
  | some r => retE E f B H r
  | none => none
theorem endR_some (B : Nat) (r : AV) : endR E f B H (some r) = retE E f B H r := rfl
theorem endK_r (B : Nat) (rs : List ResultVar) (fr' : Fr) (H' : Hp) : endK E f B rs (some (.ret, fr', H')) = endR E f B H' (resE E fr' H' rs) := by
  simp only [endK, endR]; rfl
theorem endK_n (B : Nat) (rs : List ResultVar) (fr' : Fr) (H' : Hp) : endK E f B rs (some (.normal, fr', H')) = endR E f B H' (resE E fr' H' rs) := by
  simp only [endK, endR]; rfl
/-! what is handed back -/
def rtK (E : Env) (f : FuncId) (B : Nat) (H : Hp) (vs : List AV) : Bool → Option (List AV × Hp)
  | true => some (cnL B (matL (E.resk f) vs H).2 (matL (E.resk f) vs H).1, cnHs B (matL (E.resk f) vs H).2 0 (matL (E.resk f) vs H).2)
  | false => match prep H vs with
    | some (as, H1) => some (cnL B H1 (canLs (E.resk f) as), cnHs B H1 0 H1)
    | none => none
def rtP (E : Env) (f : FuncId) (B : Nat) : Option (List AV × Hp) → Option (List AV × Hp)
  | some (as, H1) => some (cnL B H1 (canLs (E.resk f) as), cnHs B H1 0 H1)
  | none => none
theorem retL_eq (B : Nat) (vs : List AV) : retL E f B H vs = rtK E f B H vs (E.own f) := by
  unfold retL rtK; cases E.own f <;> rfl
theorem rtK_f (B : Nat) (vs : List AV) : rtK E f B H vs false = rtP E f B (prep H vs) := by
  unfold rtK rtP; rfl
theorem rtK_t (B : Nat) (vs : List AV) : rtK E f B H vs true = some (cnL B (matL (E.resk f) vs H).2 (matL (E.resk f) vs H).1, cnHs B (matL (E.resk f) vs H).2 0 (matL (E.resk f) vs H).2) := rfl
theorem rtP_some (B : Nat) (as : List AV) (H1 : Hp) : rtP E f B (some (as, H1)) = some (cnL B H1 (canLs (E.resk f) as), cnHs B H1 0 H1) := rfl
theorem retE_tup (B : Nat) (vs : List AV) : retE E f B H (.tup vs) = retN (retL E f B H vs) := rfl
theorem retE_i (B : Nat) (x : IV) : retE E f B H (.i x) = ret1 (retL E f B H [.i x]) := rfl
theorem retE_agg (B : Nat) (l : List AV) : retE E f B H (.agg l) = ret1 (retL E f B H [.agg l]) := rfl
theorem retE_ref (B c g o n : Nat) : retE E f B H (.ref c g o n) = ret1 (retL E f B H [.ref c g o n]) := rfl
theorem retE_ptr (B c g r k : Nat) : retE E f B H (.ptr c g r k) = ret1 (retL E f B H [.ptr c g r k]) := rfl
theorem retE_clo (B : Nat) (fn : Fn) (a b : List AV) : retE E f B H (.clo fn a b) = ret1 (retL E f B H [.clo fn a b]) := rfl
theorem ret1_some (a : AV) (H1 : Hp) : ret1 (some ([a], H1)) = some (a, H1) := rfl
theorem retN_some (as : List AV) (H1 : Hp) : retN (some (as, H1)) = some (.tup as, H1) := rfl
/-! canonical forms -/
theorem canI_n (x : IV) : canI none x = x := by cases x <;> rfl
theorem canI_v (k : Option Nat) (x : Value) : canI k (.v x) = .v x := by cases k <;> rfl
theorem canI_str (k : Option Nat) (x : List UInt8) : canI k (.str x) = .str x := by cases k <;> rfl
theorem canI_pt (k : Option Nat) (x : List IV) (o : Nat) : canI k (.pt x o) = .pt x o := by cases k <;> rfl
theorem canI_sl (z : Nat) (rows : List (List IV)) (ex : Bool) : canI (some z) (.sl z rows ex) = .sl z rows false := by simp [canI]
theorem canI_nil (z sz : Nat) (ex : Bool) : canI (some z) (.sl sz [] ex) = .sl z [] false := by simp only [canI]; split <;> rfl
theorem canR_nil (l : List IV) : canR [] l = l := by cases l <;> rfl
theorem canR_e (ks : List (Option Nat)) : canR ks [] = [] := by cases ks <;> rfl
theorem canR_cons (k : Option Nat) (ks : List (Option Nat)) (x : IV) (r : List IV) : canR (k :: ks) (x :: r) = canI k x :: canR ks r := rfl
theorem canC_nil (l : List AV) : canC [] l = l := by cases l <;> rfl
theorem canC_e (ks : List (Option Nat)) : canC ks [] = [] := by cases ks <;> rfl
theorem canC_i (k : Option Nat) (ks : List (Option Nat)) (x : IV) (r : List AV) : canC (k :: ks) (.i x :: r) = .i (canI k x) :: canC ks r := rfl
theorem canC_ref (k : Option Nat) (ks : List (Option Nat)) (c g o n : Nat) (r : List AV) : canC (k :: ks) (.ref c g o n :: r) = .ref c g o n :: canC ks r := rfl
theorem canC_ptr (k : Option Nat) (ks : List (Option Nat)) (c g o n : Nat) (r : List AV) : canC (k :: ks) (.ptr c g o n :: r) = .ptr c g o n :: canC ks r := rfl
theorem canC_clo (k : Option Nat) (ks : List (Option Nat)) (f : Fn) (a b : List AV) (r : List AV) : canC (k :: ks) (.clo f a b :: r) = .clo f a b :: canC ks r := rfl
theorem canA_i (k : Option Nat) (ks : List (Option Nat)) (x : IV) : canA (k :: ks) (.i x) = .i (canI k x) := rfl
theorem canA_i0 (x : IV) : canA [] (.i x) = .i x := by show AV.i (canI none x) = _; rw [canI_n]
theorem canA_agg (ks : List (Option Nat)) (l : List AV) : canA ks (.agg l) = .agg (canC ks l) := rfl
theorem canA_ref (ks : List (Option Nat)) (c g o n : Nat) : canA ks (.ref c g o n) = .ref c g o n := rfl
theorem canA_ptr (ks : List (Option Nat)) (c g o n : Nat) : canA ks (.ptr c g o n) = .ptr c g o n := rfl
theorem canA_clo (ks : List (Option Nat)) (fn : Fn) (a b : List AV) : canA ks (.clo fn a b) = .clo fn a b := rfl
theorem canA_tup (ks : List (Option Nat)) (l : List AV) : canA ks (.tup l) = .tup l := rfl
theorem canLs_nil (l : List AV) : canLs [] l = l := by cases l <;> rfl
theorem canLs_e (ks : List (List (Option Nat))) : canLs ks [] = [] := by cases ks <;> rfl
theorem canLs_cons (k : List (Option Nat)) (ks : List (List (Option Nat))) (a : AV) (r : List AV) : canLs (k :: ks) (a :: r) = canA k a :: canLs ks r := rfl
theorem matV_nil (z sz : Nat) : matV z H (.i (.sl sz [] true)) = (.ref H.length 0 0 0, H ++ [.sl z 0 [] false]) := rfl
theorem matV_false (z sz : Nat) (rows : List (List IV)) : matV z H (.i (.sl sz rows false)) = (.i (.sl sz rows false), H) := by cases rows <;> rfl
theorem matV_ref (z c g o n : Nat) : matV z H (.ref c g o n) = (.ref c g o n, H) := rfl
theorem mat1_z (z : Nat) (a : AV) : mat1 [some z] H a = matV z H a := rfl
theorem mat1_n (a : AV) : mat1 [none] H a = (a, H) := rfl
theorem mat1_0 (a : AV) : mat1 [] H a = (a, H) := rfl
theorem mat1_2 (k k' : Option Nat) (ks : List (Option Nat)) (a : AV) : mat1 (k :: k' :: ks) H a = (a, H) := by cases k <;> rfl
theorem matL_nil (l : List AV) : matL [] l H = (l, H) := by cases l <;> rfl
theorem matL_e (ks : List (List (Option Nat))) : matL ks [] H = ([], H) := by cases ks <;> rfl
theorem matL_cons (k : List (Option Nat)) (ks : List (List (Option Nat))) (a : AV) (r : List AV) : matL (k :: ks) (a :: r) H = ((mat1 k H a).1 :: (matL ks r (mat1 k H a).2).1, (matL ks r (mat1 k H a).2).2) := rfl
theorem matF_nil : matF [] fr H = (fr, H) := rfl
theorem matF_cons (k z : Nat) (r : List (Nat × Nat)) : matF ((k, z) :: r) fr H = matF r ((k, (matV z H (get k fr)).1) :: fr) (matV z H (get k fr)).2 := rfl
theorem matB_nil : matB [] fr H = H := rfl
theorem matB_cons (k j z : Nat) (r : List (Nat × Nat × Nat)) : matB ((k, j, z) :: r) fr H = matB r fr (matB2 j z H (get k fr)) := rfl
theorem matB2_ptr (j z c g r k : Nat) : matB2 j z H (.ptr c g r k) = matB1 j z c H H[c]? := rfl
def matB3 (j z c : Nat) (H : Hp) (cells : List AV) : Option AV → Hp
  | some a => (matV z H a).2.set c (.box (cells.set j (matV z H a).1))
  | none => H
theorem matB1_box (j z c : Nat) (cells : List AV) : matB1 j z c H (some (.box cells)) = matB3 j z c H cells cells[j]? := by
  unfold matB1 matB3; simp only; cases cells[j]? <;> rfl
theorem matB3_some (j z c : Nat) (cells : List AV) (a : AV) : matB3 j z c H cells (some a) = (matV z H a).2.set c (.box (cells.set j (matV z H a).1)) := rfl
theorem frzF_nil : frzF [] fr H = (fr, H) := rfl
theorem frzF_cons (k z : Nat) (r : List (Nat × Nat)) : frzF ((k, z) :: r) fr H = frzF r (frz1 k z fr H (freeze H (get k fr))).1 (frz1 k z fr H (freeze H (get k fr))).2 := rfl
theorem frz1_some (k z : Nat) (x : IV) (H1 : Hp) : frz1 k z fr H (some (x, H1)) = ((k, .i (canI (some z) x)) :: fr, H1) := rfl
theorem cnA_i (B : Nat) (x : IV) : cnA B H (.i x) = .i x := by simp [cnA]
theorem cnA_dead (B : Nat) : cnA B H .dead = .dead := by simp [cnA]
theorem cnA_agg (B : Nat) (l : List AV) : cnA B H (.agg l) = .agg (cnL B H l) := by simp [cnA]
theorem cnA_tup (B : Nat) (l : List AV) : cnA B H (.tup l) = .tup (cnL B H l) := by simp [cnA]
theorem cnA_clo (B : Nat) (f : Fn) (a b : List AV) : cnA B H (.clo f a b) = .clo f (cnL B H a) (cnL B H b) := by simp [cnA]
theorem cnA_ref (B c g o n : Nat) : cnA B H (.ref c g o n) = if c < B then .ref c g o n else cnRef c g o n H[c]? := by simp [cnA]
theorem cnA_ptr (B c g r k : Nat) : cnA B H (.ptr c g r k) = if c < B then .ptr c g r k else cnPtr c g r k H[c]? := by simp [cnA]
theorem cnRef_sl (c g o n sz g' : Nat) (rows : List (List IV)) (ex : Bool) : cnRef c g o n (some (.sl sz g' rows ex)) = if g = g' then .ref c 0 o n else .dead := rfl
theorem cnRef_fz (c g o n sz g' : Nat) (rows : List (List IV)) (ex : Bool) : cnRef c g o n (some (.fz sz g' rows ex)) = if g = g' then .i (.sl sz ((rows.drop o).take n) (ex && decide (o + n = rows.length))) else .dead := rfl
theorem cnPtr_sl (c g r k sz g' : Nat) (rows : List (List IV)) (ex : Bool) : cnPtr c g r k (some (.sl sz g' rows ex)) = if g = g' then .ptr c 0 r k else .dead := rfl
theorem cnPtr_fz (c g r k sz g' : Nat) (rows : List (List IV)) (ex : Bool) : cnPtr c g r k (some (.fz sz g' rows ex)) = .ptr c g r k := rfl
theorem cnPtr_box (c g r k : Nat) (cells : List AV) : cnPtr c g r k (some (.box cells)) = .ptr c g r k := rfl
theorem cnPtr_iter (c g r k : Nat) (s : List UInt8) (p : Nat) : cnPtr c g r k (some (.iter s p)) = .ptr c g r k := rfl
theorem cnL_nil (B : Nat) : cnL B H [] = [] := by simp [cnL]
theorem cnL_cons (B : Nat) (a : AV) (r : List AV) : cnL B H (a :: r) = cnA B H a :: cnL B H r := by simp [cnL]
theorem cnC_box (B c : Nat) (cells : List AV) : cnC B H c (.box cells) = .box (cnL B H cells) := rfl
theorem cnC_sl (B c sz g : Nat) (rows : List (List IV)) (ex : Bool) : cnC B H c (.sl sz g rows ex) = if c < B then .sl sz g rows ex else .sl sz 0 rows false := rfl
theorem cnC_fz (B c sz g : Nat) (rows : List (List IV)) (ex : Bool) : cnC B H c (.fz sz g rows ex) = .fz sz g rows ex := rfl
theorem cnC_iter (B c : Nat) (s : List UInt8) (p : Nat) : cnC B H c (.iter s p) = .iter s p := rfl
theorem cnHs_nil (B c : Nat) : cnHs B H c [] = [] := rfl
theorem cnHs_cons (B c : Nat) (x : Chunk) (r : Hp) : cnHs B H c (x :: r) = cnC B H c x :: cnHs B H (c + 1) r := rfl
theorem cnF_nil (B : Nat) : cnF B H [] = [] := rfl
theorem cnF_cons (B k : Nat) (a : AV) (r : Fr) : cnF B H ((k, a) :: r) = (k, cnA B H a) :: cnF B H r := rfl
theorem gcn_eq (B : Nat) : gcn B fr H = gc B (cnF B H fr) (cnHs B H 0 H) := rfl
/-! what a function is handed -/
def peK (E : Env) (g : FuncId) (args : List AV) (H : Hp) : Bool → Option (List AV × Hp)
  | true => some (matL (E.argk g) args H)
  | false => match prep H args with
    | some (as, H1) => some (canLs (E.argk g) as, H1)
    | none => none
def peP (E : Env) (g : FuncId) : Option (List AV × Hp) → Option (List AV × Hp)
  | some (as, H1) => some (canLs (E.argk g) as, H1)
  | none => none
theorem peP_some (g : FuncId) (as : List AV) (H1 : Hp) : peP E g (some (as, H1)) = some (canLs (E.argk g) as, H1) := rfl
theorem prepE_v {g : FuncId} (hb : E.byref g = false) (args : List AV) : prepE E g H args = peP E g (prep H args) := by
  unfold prepE peP; rw [hb]; rfl
theorem prepE_r {g : FuncId} (hb : E.byref g = true) (args : List AV) : prepE E g H args = some (matL (E.argk g) args H) := by
  unfold prepE; rw [hb]
/-! arguments handed on: equations of prep -/
def prK (a : AV) : Option (List AV × Hp) → Option (List AV × Hp)
  | some (as, H2) => some (a :: as, H2)
  | none => none
def prF (r : List AV) : Option (IV × Hp) → Option (List AV × Hp)
  | some (x, H1) => prK (.i x) (prep H1 r)
  | none => none
def prG (l r : List AV) (H : Hp) : Option (List IV × Hp) → Option (List AV × Hp)
  | some (xs, H1) => prK (.agg (ivs xs)) (prep H1 r)
  | none => prK (.agg l) (prep H r)
theorem prK_some (a : AV) (as : List AV) (H2 : Hp) : prK a (some (as, H2)) = some (a :: as, H2) := rfl
theorem prF_some (r : List AV) (x : IV) (H1 : Hp) : prF r (some (x, H1)) = prK (.i x) (prep H1 r) := rfl
theorem prG_some (l r : List AV) (xs : List IV) (H1 : Hp) : prG l r H (some (xs, H1)) = prK (.agg (ivs xs)) (prep H1 r) := rfl
theorem prG_none (l r : List AV) : prG l r H none = prK (.agg l) (prep H r) := rfl
theorem pr_nil : prep H [] = some ([], H) := rfl
theorem pr_i (x : IV) (r : List AV) : prep H (.i x :: r) = prK (.i x) (prep H r) := by simp only [prep]; cases prep H r <;> rfl
theorem pr_dead (r : List AV) : prep H (.dead :: r) = prK .dead (prep H r) := by simp only [prep]; cases prep H r <;> rfl
theorem pr_ptr (c g o n : Nat) (r : List AV) : prep H (.ptr c g o n :: r) = prK (.ptr c g o n) (prep H r) := by simp only [prep]; cases prep H r <;> rfl
theorem pr_clo (f : Fn) (a b : List AV) (r : List AV) : prep H (.clo f a b :: r) = prK (.clo f a b) (prep H r) := by simp only [prep]; cases prep H r <;> rfl
theorem pr_tup (l : List AV) (r : List AV) : prep H (.tup l :: r) = prK (.tup l) (prep H r) := by simp only [prep]; cases prep H r <;> rfl
theorem pr_ref (c g o n : Nat) (r : List AV) : prep H (.ref c g o n :: r) = prF r (freeze H (.ref c g o n)) := by
  simp only [prep, prF]
  cases freeze H (.ref c g o n) with
  | none => rfl
  | some p => simp only; cases prep p.2 r <;> rfl
theorem pr_agg (l : List AV) (r : List AV) : prep H (.agg l :: r) = prG l r H (freezeAll H l) := by
  simp only [prep, prG]
  cases freezeAll H l with
  | none => simp only; cases prep H r <;> rfl
  | some p => simp only; cases prep p.2 r <;> rfl
def fzK (c g o n : Nat) (H : Hp) : Option Chunk → Option (IV × Hp)
  | some (.sl sz g' rows ex) => if g = g' then some (.sl sz ((rows.drop o).take n) (ex && decide (o + n = rows.length)), H.set c (.fz sz g rows ex)) else none
  | some (.fz sz g' rows ex) => if g = g' then some (.sl sz ((rows.drop o).take n) (ex && decide (o + n = rows.length)), H) else none
  | _ => none
theorem fz_i (x : IV) : freeze H (.i x) = some (x, H) := rfl
theorem fz_ref (c g o n : Nat) : freeze H (.ref c g o n) = fzK c g o n H H[c]? := by
  simp only [freeze, fzK]
  cases H[c]? with
  | none => rfl
  | some x => cases x <;> rfl
theorem fz_ptr (c g o n : Nat) : freeze H (.ptr c g o n) = none := rfl
theorem fz_clo (f : Fn) (a b : List AV) : freeze H (.clo f a b) = none := rfl
theorem fzK_sl (c g o n sz g' : Nat) (rows : List (List IV)) (ex : Bool) : fzK c g o n H (some (.sl sz g' rows ex)) = if g = g' then some (.sl sz ((rows.drop o).take n) (ex && decide (o + n = rows.length)), H.set c (.fz sz g rows ex)) else none := rfl
theorem fzK_fz (c g o n sz g' : Nat) (rows : List (List IV)) (ex : Bool) : fzK c g o n H (some (.fz sz g' rows ex)) = if g = g' then some (.sl sz ((rows.drop o).take n) (ex && decide (o + n = rows.length)), H) else none := rfl
def faK (x : IV) : Option (List IV × Hp) → Option (List IV × Hp)
  | some (xs, H2) => some (x :: xs, H2)
  | none => none
def faF (r : List AV) : Option (IV × Hp) → Option (List IV × Hp)
  | some (x, H1) => faK x (freezeAll H1 r)
  | none => none
theorem faK_some (x : IV) (xs : List IV) (H2 : Hp) : faK x (some (xs, H2)) = some (x :: xs, H2) := rfl
theorem faK_none (x : IV) : faK x none = none := rfl
theorem faF_some (r : List AV) (x : IV) (H1 : Hp) : faF r (some (x, H1)) = faK x (freezeAll H1 r) := rfl
theorem faF_none (r : List AV) : faF r none = none := rfl
theorem fa_nil : freezeAll H [] = some ([], H) := rfl
theorem fa_cons (a : AV) (r : List AV) : freezeAll H (a :: r) = faF r (freeze H a) := by
  simp only [freezeAll, faF]
  cases freeze H a with
  | none => rfl
  | some p => simp only; cases freezeAll p.2 r <;> rfl
theorem fa_map : ∀ (l : List IV), freezeAll H (l.map .i) = some (l, H)
  | [] => rfl
  | a :: l => by simp only [List.map_cons, fa_cons, fz_i, faF_some, fa_map l, faK_some]
theorem resE_1 (t : Nat) : resE E fr H [.tmp t] = some (get t fr) := rfl
theorem resE_2 (t u : Nat) : resE E fr H [.tmp t, .tmp u] = some (.tup [get t fr, get u fr]) := rfl
theorem resE_3 (t u v : Nat) : resE E fr H [.tmp t, .tmp u, .tmp v] = some (.tup [get t fr, get u fr, get v fr]) := rfl

/-! operations -/
def pK (H : Hp) : Option AV → Option (AV × Hp)
  | some v => some (v, H)
  | none => none
theorem pK_some (v : AV) : pK H (some v) = some (v, H) := rfl
theorem map_pK (o : Option AV) : (o.map fun v => (v, H)) = pK H o := by cases o <;> rfl
theorem op_move (x : Operand) : evOp E cl (.move x) fr H = some (opd E fr x, H) := rfl
theorem op_assign (x : Operand) : evOp E cl (.assign x) fr H = some (opd E fr x, H) := rfl
def pickK (a b : AV) : AV → Option AV
  | .i (.v (.bool t)) => some (bif t then a else b)
  | _ => none
theorem pickK_b (a b : AV) (t : Bool) : pickK a b (.i (.v (.bool t))) = some (bif t then a else b) := rfl
theorem op_pick (c a b : Operand) : evOp E cl (.pick c a b) fr H = pK H (pickK (opd E fr a) (opd E fr b) (opd E fr c)) := by
  rw [← map_pK]; simp only [evOp, heavy, evL, Bool.false_eq_true, if_false]
  congr 1
theorem op_load (t : TypeId) (a : Operand) : evOp E cl (.load t a) fr H = pK H (loadE E H t (opd E fr a)) := map_pK _
theorem op_bin (op : BinOp) (t u : TypeId) (x y : Operand) : evOp E cl (.binOp op t x y u) fr H = pK H (binE E.P op t (opd E fr x) (opd E fr y)) := map_pK _
theorem op_un (op : UnOp) (t : TypeId) (x : Operand) : evOp E cl (.unOp op t x) fr H = pK H (unE op (opd E fr x)) := map_pK _
theorem op_slice (t : TypeId) (x : Operand) (lo hi mx : Option Operand) : evOp E cl (.slice t x lo hi mx) fr H = pK H (sliceE E H t (opd E fr x) (lo.map (opd E fr)) (hi.map (opd E fr)) (mx.map (opd E fr))) := map_pK _
theorem op_index (t : TypeId) (x ix : Operand) : evOp E cl (.index t x ix) fr H = pK H (idxE E t (opd E fr x) (opd E fr ix)) := map_pK _
theorem op_indexAddr (t : TypeId) (x ix : Operand) : evOp E cl (.indexAddr t x ix) fr H = pK H (idxAddrE E H t (opd E fr x) (opd E fr ix)) := map_pK _
theorem op_field (t : TypeId) (x : Operand) (k : Nat) : evOp E cl (.field t x k) fr H = pK H (fieldE E t (opd E fr x) k) := map_pK _
theorem op_build (t : TypeId) (ps : Array (Nat × Operand)) : evOp E cl (.build t ps) fr H = pK H (buildE E t (ps.toList.map fun p => (p.1, opd E fr p.2))) := map_pK _
theorem op_makeFunc (fn : Fn) (first caps : Array Operand) : evOp E cl (.makeFunc fn first caps) fr H = some (.clo fn (first.toList.map (opd E fr)) (caps.toList.map (opd E fr)), H) := rfl
theorem op_light (o : Op) (h : heavy E o = false) (hn : ∀ f a t, o ≠ .call ⟨.value f, a, t⟩) : evOp E cl o fr H = pK H (evL E fr H o) := by
  rw [← map_pK]
  unfold evOp
  split
  · exact absurd rfl (hn _ _ _)
  · simp [h]
theorem op_heavy (o : Op) (h : heavy E o = true) (hn : ∀ f a t, o ≠ .call ⟨.value f, a, t⟩) : evOp E cl o fr H = evH E fr H o := by
  unfold evOp
  split
  · exact absurd rfl (hn _ _ _)
  · simp [h]
theorem op_nil (x : Operand) : evOp E cl (.nilCheck x) fr H = pK H (evL E fr H (.nilCheck x)) := map_pK _
theorem op_extract (x : Operand) (n : Nat) : evOp E cl (.extract x n) fr H = pK H (evL E fr H (.extract x n)) := map_pK _
theorem op_fieldAddr (s : TypeId) (x : Operand) (k : Nat) : evOp E cl (.fieldAddr s x k) fr H = pK H (evL E fr H (.fieldAddr s x k)) := map_pK _
theorem op_len (args : Array Operand) (tys : Array TypeId) : evOp E cl (.call ⟨.builtin .len, args, tys⟩) fr H = pK H (evL E fr H (.call ⟨.builtin .len, args, tys⟩)) := map_pK _
theorem op_max (args : Array Operand) (tys : Array TypeId) : evOp E cl (.call ⟨.builtin .max, args, tys⟩) fr H = pK H (foldE maxE (args.toList.map (opd E fr))) := map_pK _
theorem op_min (args : Array Operand) (tys : Array TypeId) : evOp E cl (.call ⟨.builtin .min, args, tys⟩) fr H = pK H (foldE minE (args.toList.map (opd E fr))) := map_pK _
theorem op_append (args : Array Operand) (tys : Array TypeId) : evOp E cl (.call ⟨.builtin .append, args, tys⟩) fr H = evH E fr H (.call ⟨.builtin .append, args, tys⟩) := rfl
theorem op_convert (s d : TypeId) (x : Operand) (h : slO E.P d = none) (hs : slO E.P s = none) : evOp E cl (.convert s d x) fr H = pK H (convE E s d (opd E fr x)) := by
  rw [op_light _ (by simp [heavy, h]) (by intro f a t e; cases e)]; simp only [evL, hs]
theorem op_convS (s d e : TypeId) (x : Operand) (h : slO E.P d = none) (hs : slO E.P s = some e) : evOp E cl (.convert s d x) fr H = pK H (convS E H e d (opd E fr x)) := by
  rw [op_light _ (by simp [heavy, h]) (by intro f a t e; cases e)]; simp only [evL, hs]
theorem op_range (t : TypeId) (x : Operand) : evOp E cl (.range t x) fr H = evH E fr H (.range t x) := rfl
theorem op_next (it : Operand) (b : Bool) : evOp E cl (.next it b) fr H = evH E fr H (.next it b) := rfl
theorem op_alloc (t : TypeId) : evOp E cl (.alloc t) fr H = evH E fr H (.alloc t) := rfl
theorem op_box (t : TypeId) (x : Operand) : evOp E cl (.box t x) fr H = evH E fr H (.box t x) := rfl
theorem op_buildSlice (t : TypeId) (n : Nat) (ps : Array (Nat × Operand)) : evOp E cl (.buildSlice t n ps) fr H = buildSliceE E H t n (ps.toList.map fun p => (p.1, opd E fr p.2)) := rfl
def stK : Option Hp → Option (AV × Hp)
  | some H' => some (.dead, H')
  | none => none
theorem stK_some (H' : Hp) : stK (some H') = some (.dead, H') := rfl
theorem op_store (t : TypeId) (a x : Operand) : evOp E cl (.store t a x) fr H = stK (storeE E H t (opd E fr a) (opd E fr x)) := by
  show (storeE E H t (opd E fr a) (opd E fr x)).map _ = _
  cases storeE E H t (opd E fr a) (opd E fr x) <;> rfl
theorem op_makeSlice (t : TypeId) (l c : Operand) : evOp E cl (.makeSlice t l c) fr H = makeSliceE E H t (opd E fr l) (opd E fr c) := rfl
/-- a call of a function that is known: what it comes to is a fact of its own -/
def caK (E : Env) (cl : CallF) (H : Hp) (as : List AV) (g : Nat) : Bool → Option (AV × Hp)
  | true => callIso E cl g as H
  | false => none
theorem caK_t (as : List AV) (g : Nat) : caK E cl H as g true = callIso E cl g as H := rfl
def clK (E : Env) (cl : CallF) (H : Hp) (args : List AV) : AV → Option (AV × Hp)
  | .clo (.func g) first caps => caK E cl H (first ++ args ++ caps) g (enterOk E g)
  | _ => none
theorem clK_f (args : List AV) (g : Nat) (first caps : List AV) : clK E cl H args (.clo (.func g) first caps) = caK E cl H (first ++ args ++ caps) g (enterOk E g) := rfl
theorem op_call (x : Operand) (args : Array Operand) (tys : Array TypeId) : evOp E cl (.call ⟨.value x, args, tys⟩) fr H = clK E cl H (args.toList.map (opd E fr)) (opd E fr x) := by
  simp only [evOp, calleeE, clK]
  split
  · rename_i g as hg
    split at hg
    · rename_i g' first caps hx
      simp only [Option.some.injEq, Prod.mk.injEq] at hg
      obtain ⟨rfl, rfl⟩ := hg
      rw [hx]
      simp only [caK]
      cases enterOk E g' <;> simp
    · cases hg
  · rename_i hg
    split at hg
    · cases hg
    · rename_i hne
      split
      · rename_i g first caps hx; exact absurd hx (hne _ _ _)
      · rfl

/-! calls that hand on and return plain values -/
theorem refs_ren (ρ : Nat → Option Nat) : (∀ a, refsA a = [] → renA ρ a = a) ∧ (∀ l, refsL l = [] → renL ρ l = l) := by
  refine ⟨fun a => ?_, fun l => ?_⟩
  · induction a using AV.rec (motive_2 := fun l => refsL l = [] → renL ρ l = l) <;> (try intro h) <;> simp_all [refsA, refsL, renA, renL]
  · induction l using AV.rec_1 (motive_1 := fun a => refsA a = [] → renA ρ a = a) <;> (try intro h) <;> simp_all [refsA, refsL, renA, renL]
theorem iso_val {g : Nat} {args as : List AV} {H1 L : Hp} {r : AV} (he : E.ext g = none) (hp : prepE E g H args = some (as, H1)) (hr : refsL as = []) (hc : cl g as [] = some (r, L)) (hrr : refsA r = []) :
    callIso E cl g args H = some (r, H1) := by
  have h1 := (refs_ren (posIn [])).2 as hr
  have h2 : ∀ ρ, renA ρ r = r := fun ρ => (refs_ren ρ).1 r hrr
  unfold callIso
  simp [he, hp, hr, reach, h1, hc, hrr, h2, setAll]
theorem prep_i : ∀ (l : List IV), prep H (l.map .i) = some (l.map .i, H)
  | [] => rfl
  | a :: l => by simp only [List.map_cons, prep, prep_i l]

/-! loops, named by their place in a function -/
def loops : Code → List Code
  | .seq a b => loops a ++ loops b
  | .cond _ a b => loops a ++ loops b
  | .block _ c => loops c
  | .scope c => loops c
  | .loop c => .loop c :: loops c
  | _ => []
def loopAt (fn : Func) (k : Nat) : Code := ((fn.body.map loops).getD []).getD k .skip
end
end Go.VI
