/- VI, part 19: the equations by which code is evaluated: each fires only where what it asks is known. -/
import Derived.Test.YtokpgkknmapjlaaVI18
set_option linter.unusedSimpArgs false
set_option linter.unusedVariables false
namespace Go.VI
section
variable {E : Env} {cl : CallF} {ops : List Oper} {fr : Fr} {H : Hp} {f : FuncId}

def opK (E : Env) (cl : CallF) (ops : List Oper) (dst : Option Nat) (r : List Oper) (fr : Fr) : Option (AV × Hp) → Option (Fr × Hp)
  | some (v, H') => evOps E cl ops r (putD dst v fr) H'
  | none => none
def gV (want : Bool) : AV → Option Bool
  | .i (.v (.bool b)) => some (b == want)
  | .tup [] => some false
  | _ => none
def gB (ops : List Oper) (fr : Fr) (j : Nat) (want : Bool) : Option Bool :=
  match (ops[j]?).bind (·.dst) with
  | some d => gV want (get d fr)
  | none => none
def guK (E : Env) (cl : CallF) (ops : List Oper) (dst : Option Nat) (op : Op) (r : List Oper) (fr : Fr) (H : Hp) : Option Bool → Option (Fr × Hp)
  | some true => opK E cl ops dst r fr (evOp E cl op fr H)
  | some false => evOps E cl ops r (putD dst (.tup []) fr) H
  | none => none
theorem opK_some (dst : Option Nat) (r : List Oper) (v : AV) (H' : Hp) : opK E cl ops dst r fr (some (v, H')) = evOps E cl ops r (putD dst v fr) H' := rfl
theorem guK_t (dst : Option Nat) (op : Op) (r : List Oper) : guK E cl ops dst op r fr H (some true) = opK E cl ops dst r fr (evOp E cl op fr H) := rfl
theorem guK_f (dst : Option Nat) (op : Op) (r : List Oper) : guK E cl ops dst op r fr H (some false) = evOps E cl ops r (putD dst (.tup []) fr) H := rfl
theorem gV_b (b want : Bool) : gV want (.i (.v (.bool b))) = some (b == want) := rfl
theorem gV_u (want : Bool) : gV want (.tup []) = some false := rfl
theorem gB_of {j d : Nat} {o : Oper} (want : Bool) (h : ops[j]? = some o) (hd : o.dst = some d) : gB ops fr j want = gV want (get d fr) := by simp [gB, h, hd]
theorem evOps_nil : evOps E cl ops [] fr H = some (fr, H) := rfl
theorem evOps_cons (dst : Option Nat) (op : Op) (ty : TypeId) (pos : String) (af : Array Edge) (r : List Oper) : evOps E cl ops (⟨dst, op, ty, pos, af, none⟩ :: r) fr H = opK E cl ops dst r fr (evOp E cl op fr H) := by
  simp only [evOps, guardE]
  cases evOp E cl op fr H with
  | none => rfl
  | some x => rfl
theorem guard_gB (dst : Option Nat) (op : Op) (ty : TypeId) (pos : String) (af : Array Edge) (j : Nat) (w : Bool) : guardE ops fr ⟨dst, op, ty, pos, af, some (j, w)⟩ = gB ops fr j w := by
  simp only [guardE, gB]
  cases (ops[j]?).bind (·.dst) with
  | none => rfl
  | some d => simp only [gV]; rfl
theorem evOps_guard (dst : Option Nat) (op : Op) (ty : TypeId) (pos : String) (af : Array Edge) (j : Nat) (w : Bool) (r : List Oper) : evOps E cl ops (⟨dst, op, ty, pos, af, some (j, w)⟩ :: r) fr H = guK E cl ops dst op r fr H (gB ops fr j w) := by
  simp only [evOps, guard_gB]
  cases gB ops fr j w with
  | none => rfl
  | some b =>
    cases b with
    | false => rfl
    | true =>
      simp only [guK]
      cases evOp E cl op fr H with
      | none => rfl
      | some x => rfl

/-! regions that draw -/
def tK (t : List Nat) : Option (Fr × Hp × List (List Nat)) → Option (Fr × Hp × List (List Nat))
  | some (fr2, H2, ts) => some (fr2, H2, t :: ts)
  | none => none
def opT (E : Env) (cl : CallF) (ops : List Oper) (dst : Option Nat) (op : Op) (r : List Oper) (fr : Fr) (H : Hp) : Option (AV × Hp) → Option (Fr × Hp × List (List Nat))
  | some (v, H') => tK (touch E fr H op ++ List.range' H.length (H'.length - H.length)) (evT E cl ops r (putD dst v fr) H')
  | none => none
def guT (E : Env) (cl : CallF) (ops : List Oper) (dst : Option Nat) (op : Op) (r : List Oper) (fr : Fr) (H : Hp) : Option Bool → Option (Fr × Hp × List (List Nat))
  | some true => opT E cl ops dst op r fr H (evOp E cl op fr H)
  | some false => tK [] (evT E cl ops r (putD dst (.tup []) fr) H)
  | none => none
theorem tK_some (t : List Nat) (fr2 : Fr) (H2 : Hp) (ts : List (List Nat)) : tK t (some (fr2, H2, ts)) = some (fr2, H2, t :: ts) := rfl
theorem opT_some (dst : Option Nat) (op : Op) (r : List Oper) (v : AV) (H' : Hp) : opT E cl ops dst op r fr H (some (v, H')) = tK (touch E fr H op ++ List.range' H.length (H'.length - H.length)) (evT E cl ops r (putD dst v fr) H') := rfl
theorem guT_t (dst : Option Nat) (op : Op) (r : List Oper) : guT E cl ops dst op r fr H (some true) = opT E cl ops dst op r fr H (evOp E cl op fr H) := rfl
theorem guT_f (dst : Option Nat) (op : Op) (r : List Oper) : guT E cl ops dst op r fr H (some false) = tK [] (evT E cl ops r (putD dst (.tup []) fr) H) := rfl
theorem evT_nil : evT E cl ops [] fr H = some (fr, H, []) := rfl
theorem evT_cons (dst : Option Nat) (op : Op) (ty : TypeId) (pos : String) (af : Array Edge) (r : List Oper) : evT E cl ops (⟨dst, op, ty, pos, af, none⟩ :: r) fr H = opT E cl ops dst op r fr H (evOp E cl op fr H) := by
  simp only [evT, stp, guardE]
  cases evOp E cl op fr H with
  | none => rfl
  | some x => simp only [opT, tK]; rfl
theorem evT_guard (dst : Option Nat) (op : Op) (ty : TypeId) (pos : String) (af : Array Edge) (j : Nat) (w : Bool) (r : List Oper) : evT E cl ops (⟨dst, op, ty, pos, af, some (j, w)⟩ :: r) fr H = guT E cl ops dst op r fr H (gB ops fr j w) := by
  simp only [evT, stp, guard_gB]
  cases gB ops fr j w with
  | none => rfl
  | some b =>
    cases b with
    | false => simp only [guT, tK]; rfl
    | true =>
      simp only [guT]
      cases evOp E cl op fr H with
      | none => rfl
      | some x => simp only [opT, tK]; rfl

/-! regions with places set aside -/
def opD (E : Env) (cl : CallF) (ops : List Oper) (c : Nat) (dst : Option Nat) (op : Op) (r : List Oper) (fr : Fr) (H : Hp) : Option (AV × Hp) → Option (Fr × Hp × List (List Nat))
  | some (v, H') => tK (touchD E c fr H op ++ List.range' H.length (H'.length - H.length)) (evD E cl ops (stepC c op) r (putD dst v fr) H')
  | none => none
def guD (E : Env) (cl : CallF) (ops : List Oper) (c : Nat) (dst : Option Nat) (op : Op) (r : List Oper) (fr : Fr) (H : Hp) : Option Bool → Option (Fr × Hp × List (List Nat))
  | some true => opD E cl ops c dst op r fr H (evOpD E cl c op fr H)
  | some false => tK [] (evD E cl ops (stepC c op) r (putD dst (.tup []) fr) H)
  | none => none
theorem opD_some (c : Nat) (dst : Option Nat) (op : Op) (r : List Oper) (v : AV) (H' : Hp) : opD E cl ops c dst op r fr H (some (v, H')) = tK (touchD E c fr H op ++ List.range' H.length (H'.length - H.length)) (evD E cl ops (stepC c op) r (putD dst v fr) H') := rfl
theorem guD_t (c : Nat) (dst : Option Nat) (op : Op) (r : List Oper) : guD E cl ops c dst op r fr H (some true) = opD E cl ops c dst op r fr H (evOpD E cl c op fr H) := rfl
theorem guD_f (c : Nat) (dst : Option Nat) (op : Op) (r : List Oper) : guD E cl ops c dst op r fr H (some false) = tK [] (evD E cl ops (stepC c op) r (putD dst (.tup []) fr) H) := rfl
theorem guD_dec (c : Nat) (dst : Option Nat) (op : Op) (r : List Oper) (p : Prop) [Decidable p] : guD E cl ops c dst op r fr H (some (decide p)) = if p then opD E cl ops c dst op r fr H (evOpD E cl c op fr H) else tK [] (evD E cl ops (stepC c op) r (putD dst (.tup []) fr) H) := by by_cases h : p <;> simp [h, guD]
theorem guD_b (c : Nat) (dst : Option Nat) (op : Op) (r : List Oper) (b : Bool) : guD E cl ops c dst op r fr H (some b) = if b = true then opD E cl ops c dst op r fr H (evOpD E cl c op fr H) else tK [] (evD E cl ops (stepC c op) r (putD dst (.tup []) fr) H) := by cases b <;> rfl
theorem evD_nil (c : Nat) : evD E cl ops c [] fr H = some (fr, H, []) := rfl
theorem evD_op (c : Nat) (dst : Option Nat) (op : Op) (ty : TypeId) (pos : String) (af : Array Edge) (r : List Oper) : evD E cl ops c (⟨dst, op, ty, pos, af, none⟩ :: r) fr H = opD E cl ops c dst op r fr H (evOpD E cl c op fr H) := by
  simp only [evD, guardE]
  cases evOpD E cl c op fr H with
  | none => rfl
  | some x => simp only [opD, tK]; rfl
theorem evD_guard (c : Nat) (dst : Option Nat) (op : Op) (ty : TypeId) (pos : String) (af : Array Edge) (j : Nat) (w : Bool) (r : List Oper) : evD E cl ops c (⟨dst, op, ty, pos, af, some (j, w)⟩ :: r) fr H = guD E cl ops c dst op r fr H (gB ops fr j w) := by
  simp only [evD, guard_gB]
  cases gB ops fr j w with
  | none => rfl
  | some b =>
    cases b with
    | false => simp only [guD, tK]; rfl
    | true =>
      simp only [guD]
      cases evOpD E cl c op fr H with
      | none => rfl
      | some x => simp only [opD, tK]; rfl
theorem putH_hole (c : Nat) (r : Option (Option Nat × Chunk)) : putH c H r (some (.sl 0 0 [] true)) = match r with | some (k, ch) => some (mkR c k, H.set c ch) | none => none := rfl

/-! what a call touches -/
def crK (args : List AV) : Option (List AV × Hp) → List Nat
  | some (as, H1) => refsL args ++ reach H1 64 (refsL as) []
  | none => []
theorem crK_some (args as : List AV) (H1 : Hp) : crK args (some (as, H1)) = refsL args ++ reach H1 64 (refsL as) [] := rfl
theorem cr_prep {f : FuncId} (hb : E.byref f = false) (args : List AV) : calleeR E f args H = crK args (prep H args) := by
  unfold calleeR crK; rw [hb]; cases prep H args <;> rfl
theorem cr_ref {f : FuncId} (hb : E.byref f = true) (args : List AV) : calleeR E f args H = refsL args ++ reach H 64 (refsL args) [] := by
  unfold calleeR; rw [hb]; rfl
theorem reach_nil (n : Nat) (seen : List Nat) : reach H n [] seen = seen := by cases n <;> rfl
def tcK (E : Env) (H : Hp) (args : List AV) : AV → List Nat
  | .clo (.func g) first caps => calleeR E g (first ++ args ++ caps) H
  | _ => []
theorem tcK_f (args : List AV) (g : Nat) (first caps : List AV) : tcK E H args (.clo (.func g) first caps) = calleeR E g (first ++ args ++ caps) H := rfl
theorem touch_call (x : Operand) (args : Array Operand) (tys : Array TypeId) : touch E fr H (.call ⟨.value x, args, tys⟩) = tcK E H (args.toList.map (opd E fr)) (opd E fr x) := by
  simp only [touch, calleeE, tcK]
  split
  · rename_i g as hg
    split at hg
    · rename_i g' first caps hx
      simp only [Option.some.injEq, Prod.mk.injEq] at hg
      obtain ⟨rfl, rfl⟩ := hg
      rw [hx]
    · cases hg
  · rename_i hg
    split at hg
    · cases hg
    · rename_i hne
      split
      · rename_i g first caps hx; exact absurd hx (hne _ _ _)
      · rfl
theorem touch_bi (b : Builtin) (args : Array Operand) (tys : Array TypeId) : touch E fr H (.call ⟨.builtin b, args, tys⟩) = refsL (args.toList.map (opd E fr)) := rfl
theorem touch_load (t : TypeId) (x : Operand) : touch E fr H (.load t x) = refsA (opd E fr x) := rfl
theorem touch_ia (t : TypeId) (x i : Operand) : touch E fr H (.indexAddr t x i) = refsA (opd E fr x) := rfl
theorem touch_slice (t : TypeId) (x : Operand) (lo hi mx : Option Operand) : touch E fr H (.slice t x lo hi mx) = refsA (opd E fr x) := rfl
theorem touch_store (t : TypeId) (a x : Operand) : touch E fr H (.store t a x) = refsA (opd E fr a) ++ refsA (opd E fr x) := rfl
theorem touch_bs (t : TypeId) (n : Nat) (ps : Array (Nat × Operand)) : touch E fr H (.buildSlice t n ps) = buildRefs E t n (ps.toList.map fun p => (p.1, opd E fr p.2)) := rfl

theorem touch_move (x : Operand) : touch E fr H (.move x) = [] := rfl
theorem touch_assign (x : Operand) : touch E fr H (.assign x) = [] := rfl
theorem touch_pick (a b c : Operand) : touch E fr H (.pick a b c) = [] := rfl
theorem touch_bin (op : BinOp) (t u : TypeId) (x y : Operand) : touch E fr H (.binOp op t x y u) = [] := rfl
theorem touch_un (op : UnOp) (t : TypeId) (x : Operand) : touch E fr H (.unOp op t x) = [] := rfl
theorem touch_conv (s d : TypeId) (x : Operand) : touch E fr H (.convert s d x) = [] := rfl
theorem touch_mf (fn : Fn) (a b : Array Operand) : touch E fr H (.makeFunc fn a b) = [] := rfl
theorem touch_field (t : TypeId) (x : Operand) (k : Nat) : touch E fr H (.field t x k) = [] := rfl
theorem touch_fa (t : TypeId) (x : Operand) (k : Nat) : touch E fr H (.fieldAddr t x k) = [] := rfl
theorem touch_ix (t : TypeId) (x y : Operand) : touch E fr H (.index t x y) = [] := rfl
theorem touch_ex (x : Operand) (n : Nat) : touch E fr H (.extract x n) = [] := rfl
theorem touch_nil (x : Operand) : touch E fr H (.nilCheck x) = [] := rfl
theorem touch_bd (t : TypeId) (ps : Array (Nat × Operand)) : touch E fr H (.build t ps) = [] := rfl
theorem touch_alloc (t : TypeId) : touch E fr H (.alloc t) = [] := rfl
theorem touch_box (t : TypeId) (x : Operand) : touch E fr H (.box t x) = [] := rfl
theorem touch_ms (t : TypeId) (x y : Operand) : touch E fr H (.makeSlice t x y) = [] := rfl

/-! code -/
theorem seqK_n (k : Fr → Hp → Option (Ex × Fr × Hp)) (fr' : Fr) (H' : Hp) : seqK k (some (.normal, fr', H')) = k fr' H' := rfl
theorem seqK_e (k : Fr → Hp → Option (Ex × Fr × Hp)) (id : Nat) (fr' : Fr) (H' : Hp) : seqK k (some (.exit id, fr', H')) = some (.exit id, fr', H') := rfl
theorem seqK_r (k : Fr → Hp → Option (Ex × Fr × Hp)) (fr' : Fr) (H' : Hp) : seqK k (some (.ret, fr', H')) = some (.ret, fr', H') := rfl
theorem regK_some (id : Nat) (fr' : Fr) (H' : Hp) : regK E f id (some (fr', H')) = some (.normal, norm (E.keep f id) fr', H') := rfl
theorem regTK_some (id : Nat) (fr' : Fr) (H' : Hp) (tr : List (List Nat)) : regTK E f id (some (fr', H', tr)) = if (E.flo f id).all (floatOk tr) = true then some (.normal, norm (E.keep f id) fr', H') else none := rfl
theorem condK_t (a b : Option (Ex × Fr × Hp)) : condK (.i (.v (.bool true))) a b = a := rfl
theorem condK_f (a b : Option (Ex × Fr × Hp)) : condK (.i (.v (.bool false))) a b = b := rfl
theorem blockK_n (id : Nat) (fr' : Fr) (H' : Hp) : blockK id (some (.normal, fr', H')) = some (.normal, fr', H') := rfl
theorem blockK_r (id : Nat) (fr' : Fr) (H' : Hp) : blockK id (some (.ret, fr', H')) = some (.ret, fr', H') := rfl
theorem blockK_e (id j : Nat) (fr' : Fr) (H' : Hp) : blockK id (some (.exit j, fr', H')) = if j = id then some (.normal, fr', H') else some (.exit j, fr', H') := rfl
def endR (H : Hp) : Option AV → Option (AV × Hp)
  | some r => some (r, H)
  | none => none
theorem endR_some (r : AV) : endR H (some r) = some (r, H) := rfl
theorem endK_r (rs : List ResultVar) (fr' : Fr) (H' : Hp) : endK E rs (some (.ret, fr', H')) = endR H' (resE E fr' H' rs) := by
  simp only [endK, endR]; rfl
theorem endK_n (rs : List ResultVar) (fr' : Fr) (H' : Hp) : endK E rs (some (.normal, fr', H')) = endR H' (resE E fr' H' rs) := by
  simp only [endK, endR]; rfl
theorem resE_1 (t : Nat) : resE E fr H [.tmp t] = some (get t fr) := rfl
theorem resE_2 (t u : Nat) : resE E fr H [.tmp t, .tmp u] = some (.tup [get t fr, get u fr]) := rfl
theorem resE_3 (t u v : Nat) : resE E fr H [.tmp t, .tmp u, .tmp v] = some (.tup [get t fr, get u fr, get v fr]) := rfl

/-! operations -/
def pK (H : Hp) : Option AV → Option (AV × Hp)
  | some v => some (v, H)
  | none => none
theorem pK_some (v : AV) : pK H (some v) = some (v, H) := rfl
theorem map_pK (o : Option AV) : (o.map fun v => (v, H)) = pK H o := by cases o <;> rfl
theorem op_move (x : Operand) : evOp E cl (.move x) fr H = some (opd E fr x, H) := rfl
theorem op_assign (x : Operand) : evOp E cl (.assign x) fr H = some (opd E fr x, H) := rfl
def pickK (a b : AV) : AV → Option AV
  | .i (.v (.bool t)) => some (bif t then a else b)
  | _ => none
theorem pickK_b (a b : AV) (t : Bool) : pickK a b (.i (.v (.bool t))) = some (bif t then a else b) := rfl
theorem op_pick (c a b : Operand) : evOp E cl (.pick c a b) fr H = pK H (pickK (opd E fr a) (opd E fr b) (opd E fr c)) := by
  rw [← map_pK]; simp only [evOp, heavy, evL, Bool.false_eq_true, if_false]
  congr 1
theorem op_load (t : TypeId) (a : Operand) : evOp E cl (.load t a) fr H = pK H (loadE E H t (opd E fr a)) := map_pK _
theorem op_bin (op : BinOp) (t u : TypeId) (x y : Operand) : evOp E cl (.binOp op t x y u) fr H = pK H (binE E.P op t (opd E fr x) (opd E fr y)) := map_pK _
theorem op_un (op : UnOp) (t : TypeId) (x : Operand) : evOp E cl (.unOp op t x) fr H = pK H (unE op (opd E fr x)) := map_pK _
theorem op_slice (t : TypeId) (x : Operand) (lo hi mx : Option Operand) : evOp E cl (.slice t x lo hi mx) fr H = pK H (sliceE E H t (opd E fr x) (lo.map (opd E fr)) (hi.map (opd E fr)) (mx.map (opd E fr))) := map_pK _
theorem op_index (t : TypeId) (x ix : Operand) : evOp E cl (.index t x ix) fr H = pK H (idxE E t (opd E fr x) (opd E fr ix)) := map_pK _
theorem op_indexAddr (t : TypeId) (x ix : Operand) : evOp E cl (.indexAddr t x ix) fr H = pK H (idxAddrE E H t (opd E fr x) (opd E fr ix)) := map_pK _
theorem op_field (t : TypeId) (x : Operand) (k : Nat) : evOp E cl (.field t x k) fr H = pK H (fieldE E t (opd E fr x) k) := map_pK _
theorem op_build (t : TypeId) (ps : Array (Nat × Operand)) : evOp E cl (.build t ps) fr H = pK H (buildE E t (ps.toList.map fun p => (p.1, opd E fr p.2))) := map_pK _
theorem op_makeFunc (fn : Fn) (first caps : Array Operand) : evOp E cl (.makeFunc fn first caps) fr H = some (.clo fn (first.toList.map (opd E fr)) (caps.toList.map (opd E fr)), H) := rfl
theorem op_light (o : Op) (h : heavy E o = false) (hn : ∀ f a t, o ≠ .call ⟨.value f, a, t⟩) : evOp E cl o fr H = pK H (evL E fr H o) := by
  rw [← map_pK]
  unfold evOp
  split
  · exact absurd rfl (hn _ _ _)
  · simp [h]
theorem op_heavy (o : Op) (h : heavy E o = true) (hn : ∀ f a t, o ≠ .call ⟨.value f, a, t⟩) : evOp E cl o fr H = evH E fr H o := by
  unfold evOp
  split
  · exact absurd rfl (hn _ _ _)
  · simp [h]
theorem op_nil (x : Operand) : evOp E cl (.nilCheck x) fr H = pK H (evL E fr H (.nilCheck x)) := map_pK _
theorem op_extract (x : Operand) (n : Nat) : evOp E cl (.extract x n) fr H = pK H (evL E fr H (.extract x n)) := map_pK _
theorem op_fieldAddr (s : TypeId) (x : Operand) (k : Nat) : evOp E cl (.fieldAddr s x k) fr H = pK H (evL E fr H (.fieldAddr s x k)) := map_pK _
theorem op_len (args : Array Operand) (tys : Array TypeId) : evOp E cl (.call ⟨.builtin .len, args, tys⟩) fr H = pK H (evL E fr H (.call ⟨.builtin .len, args, tys⟩)) := map_pK _
theorem op_max (args : Array Operand) (tys : Array TypeId) : evOp E cl (.call ⟨.builtin .max, args, tys⟩) fr H = pK H (foldE maxE (args.toList.map (opd E fr))) := map_pK _
theorem op_min (args : Array Operand) (tys : Array TypeId) : evOp E cl (.call ⟨.builtin .min, args, tys⟩) fr H = pK H (foldE minE (args.toList.map (opd E fr))) := map_pK _
theorem op_append (args : Array Operand) (tys : Array TypeId) : evOp E cl (.call ⟨.builtin .append, args, tys⟩) fr H = evH E fr H (.call ⟨.builtin .append, args, tys⟩) := rfl
theorem op_convert (s d : TypeId) (x : Operand) (h : slO E.P d = none) : evOp E cl (.convert s d x) fr H = pK H (convE E s d (opd E fr x)) := by
  rw [op_light _ (by simp [heavy, h]) (by intro f a t e; cases e)]; rfl
theorem op_alloc (t : TypeId) : evOp E cl (.alloc t) fr H = evH E fr H (.alloc t) := rfl
theorem op_box (t : TypeId) (x : Operand) : evOp E cl (.box t x) fr H = evH E fr H (.box t x) := rfl
theorem op_buildSlice (t : TypeId) (n : Nat) (ps : Array (Nat × Operand)) : evOp E cl (.buildSlice t n ps) fr H = buildSliceE E H t n (ps.toList.map fun p => (p.1, opd E fr p.2)) := rfl
def stK : Option Hp → Option (AV × Hp)
  | some H' => some (.dead, H')
  | none => none
theorem stK_some (H' : Hp) : stK (some H') = some (.dead, H') := rfl
theorem op_store (t : TypeId) (a x : Operand) : evOp E cl (.store t a x) fr H = stK (storeE E H t (opd E fr a) (opd E fr x)) := by
  show (storeE E H t (opd E fr a) (opd E fr x)).map _ = _
  cases storeE E H t (opd E fr a) (opd E fr x) <;> rfl
theorem op_makeSlice (t : TypeId) (l c : Operand) : evOp E cl (.makeSlice t l c) fr H = makeSliceE E H t (opd E fr l) (opd E fr c) := rfl
/-- a call of a function that is known: what it comes to is a fact of its own -/
def caK (E : Env) (cl : CallF) (H : Hp) (as : List AV) (g : Nat) : Bool → Option (AV × Hp)
  | true => callIso E cl g as H
  | false => none
theorem caK_t (as : List AV) (g : Nat) : caK E cl H as g true = callIso E cl g as H := rfl
def clK (E : Env) (cl : CallF) (H : Hp) (args : List AV) : AV → Option (AV × Hp)
  | .clo (.func g) first caps => caK E cl H (first ++ args ++ caps) g (enterOk E g)
  | _ => none
theorem clK_f (args : List AV) (g : Nat) (first caps : List AV) : clK E cl H args (.clo (.func g) first caps) = caK E cl H (first ++ args ++ caps) g (enterOk E g) := rfl
theorem op_call (x : Operand) (args : Array Operand) (tys : Array TypeId) : evOp E cl (.call ⟨.value x, args, tys⟩) fr H = clK E cl H (args.toList.map (opd E fr)) (opd E fr x) := by
  simp only [evOp, calleeE, clK]
  split
  · rename_i g as hg
    split at hg
    · rename_i g' first caps hx
      simp only [Option.some.injEq, Prod.mk.injEq] at hg
      obtain ⟨rfl, rfl⟩ := hg
      rw [hx]
      simp only [caK]
      cases enterOk E g' <;> simp
    · cases hg
  · rename_i hg
    split at hg
    · cases hg
    · rename_i hne
      split
      · rename_i g first caps hx; exact absurd hx (hne _ _ _)
      · rfl

/-! calls that hand on and return plain values -/
theorem refs_ren (ρ : Nat → Option Nat) : (∀ a, refsA a = [] → renA ρ a = a) ∧ (∀ l, refsL l = [] → renL ρ l = l) := by
  refine ⟨fun a => ?_, fun l => ?_⟩
  · induction a using AV.rec (motive_2 := fun l => refsL l = [] → renL ρ l = l) <;> (try intro h) <;> simp_all [refsA, refsL, renA, renL]
  · induction l using AV.rec_1 (motive_1 := fun a => refsA a = [] → renA ρ a = a) <;> (try intro h) <;> simp_all [refsA, refsL, renA, renL]
theorem iso_val {g : Nat} {args as : List AV} {H1 L : Hp} {r : AV} (hb : E.byref g = false) (he : E.ext g = none) (hp : prep H args = some (as, H1)) (hr : refsL as = []) (hc : cl g as [] = some (r, L)) (hrr : refsA r = []) :
    callIso E cl g args H = some (r, H1) := by
  have h1 := (refs_ren (posIn [])).2 as hr
  have h2 : ∀ ρ, renA ρ r = r := fun ρ => (refs_ren ρ).1 r hrr
  unfold callIso
  simp [hb, he, hp, hr, reach, h1, hc, hrr, h2, setAll]
theorem prep_i : ∀ (l : List IV), prep H (l.map .i) = some (l.map .i, H)
  | [] => rfl
  | a :: l => by simp only [List.map_cons, prep, prep_i l]

/-! loops, named by their place in a function -/
def loops : Code → List Code
  | .seq a b => loops a ++ loops b
  | .cond _ a b => loops a ++ loops b
  | .block _ c => loops c
  | .scope c => loops c
  | .loop c => .loop c :: loops c
  | _ => []
def loopAt (fn : Func) (k : Nat) : Code := ((fn.body.map loops).getD []).getD k .skip
end
end Go.VI
