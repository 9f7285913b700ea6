/- VI, part 28: byte slices as strings; the light operations' theorem; iterators over strings. -/
import Derived.Test.YtcifhkdbaienjaaVI8
import Derived.Laws.BytesArg
import Derived.Laws.RangeString
set_option linter.unusedSimpArgs false
set_option linter.unusedVariables false
namespace Go.VI
section
variable {E : Env} {I : Imm} {η : Eta} {H : Hp} {w : World}

theorem nums_flat : ∀ {rows : List (List IV)} {l : List Int}, numsOf rows = some l → rows.length = l.length ∧ rows.flatten = l.map fun n => IV.v (.int .u8 n)
  | [], l, h => by simp only [numsOf, Option.some.injEq] at h; subst h; simp
  | r :: rows, l, h => by
    unfold numsOf at h
    split at h
    · rename_i e; cases e
    · rename_i n r' e
      simp only [List.cons.injEq] at e
      obtain ⟨rfl, rfl⟩ := e
      simp only [Option.map_eq_some_iff] at h
      obtain ⟨m, hm, rfl⟩ := h
      obtain ⟨h1, h2⟩ := nums_flat hm
      simp [h1, h2]
    · cases h
theorem convS_ok (hC : Conc E I η H w) {s d e : TypeId} {x v : AV} {y : Value} (hs : slO E.P s = some e) (h : convS E H e d x = some v) (r : RelA I η H x y) : ∃ u, (convert s d y).run E.P w = .ok u w ∧ RelA I η H v u := by
  unfold convS at h
  split at h
  rotate_left
  · cases h
  rename_i hc
  split at h
  rotate_left
  · cases h
  rename_i z rows ex hrow
  split at h
  rotate_left
  · cases h
  rename_i hz
  simp only [Option.map_eq_some_iff] at h
  obtain ⟨l, hl, rfl⟩ := h
  have hsrc : srcE H x = some (z, rows, ex) := by
    cases x with
    | i u => cases u with
      | str l => simp [rowsE] at hrow
      | _ => exact hrow
    | _ => exact hrow
  obtain ⟨cs, c1, c2, c3, c4, c5⟩ := src_ok (P := E.P) hC r hsrc hz (Nat.lt_add_one 0)
  obtain ⟨n1, n2⟩ := nums_flat hl
  have hy : ∃ a cap, y = .slice a rows.length cap := by
    cases x with
    | i u => cases u with
      | sl sz rows' ex' =>
        simp only [rowsE, Option.some.injEq, Prod.mk.injEq] at hrow
        obtain ⟨rfl, rfl, rfl⟩ := hrow
        exact sl_len (relA_i r)
      | _ => simp [rowsE] at hrow
    | ref c g off len =>
      obtain ⟨a, cap, rfl⟩ := ref_len r
      have := c1 w
      simp only [Builtin.lenOf, Sem.run_pure, Result.ok.injEq] at this
      exact ⟨a, cap, by rw [this.1]⟩
    | _ => simp [rowsE] at hrow
  obtain ⟨a, cap, rfl⟩ := hy
  have hcs : cs = (l.map (Value.int .u8)).toArray := by
    apply Array.ext
    · rw [c3]; simp [n1]
    · intro j h1 h2
      have hj : j < l.length := by simpa using h2
      have h3 := c4 j (.v (.int .u8 l[j])) (by rw [n2]; simp [hj])
      rw [Array.getD_eq_getD_getElem?, Array.getElem?_eq_getElem h1, Option.getD_some] at h3
      generalize cs[j] = q at h3 ⊢
      cases h3; simp
  rw [run_convert_bytes_string w s d e a rows.length cap (slO_ok hs) (kindO_ok hc.2) (isStrO_ok hc.1)]
  cases a with
  | none =>
    have hl0 := c2 w rfl
    simp only [Builtin.firstCells, Sem.run_pure, Result.ok.injEq, and_true] at hl0
    rw [hcs] at hl0
    have : l = [] := by
      cases l with
      | nil => rfl
      | cons a l => have := congrArg Array.size hl0; simp at this
    subst this
    exact ⟨_, rfl, relA_mkstr⟩
  | some a =>
    have hl0 := c2 w rfl
    simp only [Builtin.firstCells, Nat.mul_one] at hl0
    rw [hcs] at hl0
    rw [run_bytesToString w a rows.length cap l hl0, foldl_push_bytes]
    refine ⟨_, rfl, ?_⟩
    have := relA_mkstr (I := I) (η := η) (H := H) (l := l.map fun n => UInt8.ofNat n.toNat)
    have e : ∀ a : Array UInt8, ByteArray.empty.data ++ a = a := fun a => by
      have h0 : ByteArray.empty.data = #[] := rfl
      rw [h0]; simp
    rw [e]
    exact this

theorem evL_ok {fr : Fr} {a : Act} {o : Oper} {v : AV} (h : evL E fr H o.op = some v) (hC : Conc E I η H w) (hf : FrOK I η H fr a.tmps) :
    ∃ x, (execOp a.eval o).run E.P w = .ok (.value x) w ∧ RelA I η H v x := by
  obtain ⟨dst, op, ty, pos, after, guard⟩ := o
  simp only at h
  cases op <;> (try (first | (simp only [evL] at h; done) | (simp only [evL] at h; cases h; done)))
  case move x => simp only [evL, Option.some.injEq] at h; subst h; exact ⟨_, by simp [execOp], opd_ok hC hf x⟩
  case assign x => simp only [evL, Option.some.injEq] at h; subst h; exact ⟨_, by simp [execOp], opd_ok hC hf x⟩
  case pick c x y =>
    simp only [evL] at h
    split at h
    · rename_i t hc
      cases h
      have hcv := opd_ok hC hf c
      rw [hc] at hcv
      refine ⟨if t then a.eval x else a.eval y, by simp [execOp, relA_v hcv, asBool], ?_⟩
      cases t
      · exact opd_ok hC hf y
      · exact opd_ok hC hf x
    · cases h
  case build t parts =>
    simp only [evL] at h
    obtain ⟨u, h1, h2⟩ := build_ok (w := w) (qs := parts.map fun p => (p.1, a.eval p.2)) h ⟨by simp, fun k p q hp hq => by
      simp only [List.getElem?_map, Option.map_eq_some_iff, Array.toList_map] at hp hq
      obtain ⟨p0, hp0, rfl⟩ := hp
      obtain ⟨q0, hq0, rfl⟩ := hq
      rw [hp0] at hq0; cases hq0
      exact ⟨rfl, opd_ok hC hf _⟩⟩
    exact ⟨u, by simp only [execOp, Sem.run_bind]; rw [h1]; simp, h2⟩
  case load t x =>
    simp only [evL] at h
    obtain ⟨u, h1, h2⟩ := load_ok hC (opd_ok hC hf x) h
    exact ⟨u, by simp only [execOp, Sem.run_bind, h1, Result.andThen_ok, Sem.run_pure], h2⟩
  case nilCheck x =>
    simp only [evL] at h
    have hx := opd_ok hC hf x
    split at h
    · rename_i hc; cases h; rw [hc] at hx
      have hx' := hx
      cases hx with
      | ptr c g r k v hc2 hb hs hf2 hi hp hg =>
        obtain ⟨b, hb2⟩ := hp
        refine ⟨a.eval x, ?_, hx'⟩
        simp only [execOp, hb2, Sem.run_pure]
    · rename_i hc; cases h; rw [hc] at hx
      have hx' := hx
      generalize hy : a.eval x = y at hx hx'
      cases relA_i hx with
      | pt => exact ⟨_, by simp only [execOp, hy, Sem.run_pure], hx'⟩
    · rename_i hc; cases h; rw [hc] at hx
      have hx' := hx
      generalize hy : a.eval x = y at hx hx'
      cases hx with
      | clo => exact ⟨_, by simp only [execOp, hy, Sem.run_pure], hx'⟩
    · cases h
  case binOp op t x y t2 =>
    simp only [evL] at h
    obtain ⟨z, h1, h2⟩ := binE_ok (w := w) h (opd_ok hC hf x) (opd_ok hC hf y) x y
    exact ⟨z, by simp only [execOp]; rw [Sem.run_bind, h1]; simp, h2⟩
  case unOp op t x =>
    simp only [evL] at h
    obtain ⟨z, h1, h2⟩ := unE_ok (w := w) (P := E.P) h (opd_ok hC hf x)
    exact ⟨z, by simp only [execOp, Sem.run_bind, h1, Result.andThen_ok, Sem.run_pure], h2⟩
  case convert s d x =>
    simp only [evL] at h
    split at h
    · rename_i e he
      obtain ⟨z, h1, h2⟩ := convS_ok (w := w) hC he h (opd_ok hC hf x)
      exact ⟨z, by simp only [execOp, Sem.run_bind, h1, Result.andThen_ok, Sem.run_pure], h2⟩
    · obtain ⟨z, h1, h2⟩ := conv_ok (w := w) h (opd_ok hC hf x)
      exact ⟨z, by simp only [execOp, Sem.run_bind, h1, Result.andThen_ok, Sem.run_pure], h2⟩
  case makeFunc fn first caps =>
    simp only [evL, Option.some.injEq] at h
    subst h
    have key : ∀ (l : Array Operand) (k : Nat) (b : AV), (l.toList.map (opd E fr))[k]? = some b → RelA I η H b ((l.map a.eval).getD k undef) := by
      intro l k b hb
      simp only [List.getElem?_map, Option.map_eq_some_iff, Array.getElem?_toList] at hb
      obtain ⟨x, hx, rfl⟩ := hb
      have hlt := (Array.getElem?_eq_some_iff.1 hx).1
      rw [getD_map _ _ _ hlt, (Array.getElem?_eq_some_iff.1 hx).2]
      exact opd_ok hC hf x
    exact ⟨_, by simp only [execOp, Instr.makeFunc, Sem.run_bind, Sem.run_pure, Result.andThen_ok], .clo _ _ _ _ _ (by simp) (by simp) (key first) (key caps)⟩
  case slice t x lo hi mx =>
    simp only [evL] at h
    obtain ⟨u, h1, h2⟩ := slice_ok h hC (opd_ok hC hf x) (relO_map hC hf lo) (relO_map hC hf hi) (relO_map hC hf mx)
    exact ⟨u, by simp only [execOp, Sem.run_bind, h1, Result.andThen_ok, Sem.run_pure], h2⟩
  case fieldAddr t x f =>
    simp only [evL] at h
    split at h
    · rename_i off ty hfd
      split at h
      · rename_i z hz
        split at h
        · rename_i hp
          obtain ⟨u, h1, h2⟩ := field_ok (w := w) hfd hz hp h (opd_ok hC hf x)
          exact ⟨u, by simp only [execOp, Sem.run_bind, h1, Result.andThen_ok, Sem.run_pure], h2⟩
        · cases h
      · cases h
    · cases h
  case field t x f =>
    simp only [evL] at h
    obtain ⟨u, h1, h2⟩ := fieldE_ok (w := w) h (opd_ok hC hf x)
    exact ⟨u, by simp only [execOp, Sem.run_bind, h1, Result.andThen_ok, Sem.run_pure], h2⟩
  case indexAddr t x ix =>
    simp only [evL] at h
    obtain ⟨u, h1, h2⟩ := idxAddr_ok h hC (opd_ok hC hf x) (opd_ok hC hf ix)
    exact ⟨u, by simp only [execOp, Sem.run_bind, h1, Result.andThen_ok, Sem.run_pure], h2⟩
  case index t x ix =>
    simp only [evL] at h
    obtain ⟨u, h1, h2⟩ := idx_ok (w := w) h (opd_ok hC hf x) (opd_ok hC hf ix)
    exact ⟨u, by simp only [execOp, Sem.run_bind, h1, Result.andThen_ok, Sem.run_pure], h2⟩
  case extract x n =>
    simp only [evL] at h
    split at h
    · rename_i vs hx
      have r := opd_ok hC hf x
      rw [hx] at r
      obtain ⟨cs, e, h1, h2⟩ := relA_tup r
      have hlt := (List.getElem?_eq_some_iff.1 h).1
      refine ⟨_, ?_, h2 _ _ h⟩
      simp only [execOp, e, Instr.extract]
      rw [getD_eq cs n (by omega)]
      simp
    · cases h
  case call c =>
    obtain ⟨callee, args, tys⟩ := c
    cases callee with
    | value f => simp [evL] at h
    | invoke r m => simp [evL] at h
    | builtin b =>
      simp only [evL] at h
      split at h
      · rename_i x t hx ht
        have hx := toList_one hx
        have ht := toList_one ht
        subst hx ht
        have r := opd_ok hC hf x
        split at h
        · rename_i hor
          split at h
          · rename_i l hl
            rw [hl] at r
            split at h
            · rename_i hs
              cases h
              exact ⟨_, by simp [execOp, resolve, invoke, builtin, Builtin.len_, run_underlying (isStrO_ok hs), relA_str r, goInt, size_mk], relA_int⟩
            · cases h
          · rename_i sz rows ex hl
            rw [hl] at r
            split at h
            · cases h
            · rename_i hs
              cases h
              rcases hor with h0 | h0
              · exact absurd h0 hs
              · obtain ⟨e, he⟩ := Option.isSome_iff_exists.1 h0
                obtain ⟨ad, cap, hy⟩ := sl_len (relA_i r)
                exact ⟨_, by simp [execOp, resolve, invoke, builtin, Builtin.len_, run_underlying (slO_ok he), hy, goInt], relA_int⟩
          · rename_i c g off len hl
            rw [hl] at r
            split at h
            · cases h
            · rename_i hs
              cases h
              rcases hor with h0 | h0
              · exact absurd h0 hs
              · obtain ⟨e, he⟩ := Option.isSome_iff_exists.1 h0
                obtain ⟨ad, cap, hy⟩ := ref_len r
                exact ⟨_, by simp [execOp, resolve, invoke, builtin, Builtin.len_, run_underlying (slO_ok he), hy, goInt], relA_int⟩
          · cases h
        · cases h
      · obtain ⟨u, h1, h2⟩ := foldE_ok (w := w) (g := Builtin.max2) E.P (fun hh ra rb => max_ok E.P hh ra rb) (args.toList.map (opd E fr)) (args.map a.eval).toList v (by simp)
          (fun k b y hb hy => by
            simp only [List.getElem?_map, Option.map_eq_some_iff, Array.toList_map] at hb hy
            obtain ⟨p0, hp0, rfl⟩ := hb
            obtain ⟨q0, hq0, rfl⟩ := hy
            rw [hp0] at hq0; cases hq0
            exact opd_ok hC hf _) (stuck "max: at least one argument expected") h
        have h1' : (Builtin.max_ tys ty (args.map a.eval)).run E.P w = .ok u w := h1
        exact ⟨u, by simp only [execOp, resolve, Sem.run_bind, Sem.run_pure, Result.andThen_ok, invoke, builtin, h1'], h2⟩
      · obtain ⟨u, h1, h2⟩ := foldE_ok (w := w) (g := Builtin.min2) E.P (fun hh ra rb => min_ok E.P hh ra rb) (args.toList.map (opd E fr)) (args.map a.eval).toList v (by simp)
          (fun k b y hb hy => by
            simp only [List.getElem?_map, Option.map_eq_some_iff, Array.toList_map] at hb hy
            obtain ⟨p0, hp0, rfl⟩ := hb
            obtain ⟨q0, hq0, rfl⟩ := hy
            rw [hp0] at hq0; cases hq0
            exact opd_ok hC hf _) (stuck "min: at least one argument expected") h
        have h1' : (Builtin.min_ tys ty (args.map a.eval)).run E.P w = .ok u w := h1
        exact ⟨u, by simp only [execOp, resolve, Sem.run_bind, Sem.run_pure, Result.andThen_ok, invoke, builtin, h1'], h2⟩
      · cases h

/-! iterators over strings -/
theorem new_iter0 (hC : Conc E I η H w) {w' : World} {s : ByteArray} (hw : w'.heap = w.heap.push (.stringIter s 0)) (ho : w'.os = w.os) (ht : w'.tape = w.tape) (hu : w'.output = w.output) (ch : Chunk)
    (hch : Mono I η H I (etaNew η H.length w.heap.size 0) (H ++ [ch]) → ChunkOK I (etaNew η H.length w.heap.size 0) (H ++ [ch]) w' H.length ch) {Q : Imm → Eta → Prop}
    (hQ : Mono I η H I (etaNew η H.length w.heap.size 0) (H ++ [ch]) → Q I (etaNew η H.length w.heap.size 0)) : After E I η H w (H ++ [ch]) w' Q := by
  have hold : ∀ b, b < w.heap.size → w'.heap[b]? = w.heap[b]? := by
    intro b hb
    rw [hw, Array.getElem?_push, if_neg (by omega)]
  have hnew : ∀ d, H.length ≤ d → η d = none := by
    intro d hd
    cases h : η d with
    | none => rfl
    | some p => have := (hC.sep d p.1 p.2 h).2.2; omega
  have hm : Mono I η H I (etaNew η H.length w.heap.size 0) (H ++ [ch]) := by
    refine mono_of (fun _ _ h => h) (by simp) fun c hc => ?_
    exact CStep.same (by rw [List.getElem?_append_left hc]) (by simp [etaNew, show c ≠ H.length by omega])
  have hin : ∀ c b n, etaNew η H.length w.heap.size 0 c = some (b, n) → (c = H.length ∧ b = w.heap.size ∧ n = 0) ∨ η c = some (b, n) := by
    intro c b n h
    unfold etaNew at h
    split at h
    · cases h; exact .inl ⟨by assumption, rfl, rfl⟩
    · exact .inr h
  refine ⟨I, etaNew η H.length w.heap.size 0, ⟨fun b o hb => ?_, fun c x hx => ?_, fun c c' b n n' h1 h2 => ?_, fun c b n h => ?_, hC.glob⟩, ⟨ho, ht, hu, by rw [hw]; simp, fun b hb _ => hold b hb, fun _ _ h => h, fun b h => .inl h, fun c b n h => ?_⟩, hm, hQ hm⟩
  · have := hC.imm b o hb
    have hlt : b < w.heap.size := (Array.getElem?_eq_some_iff.1 this).1
    rw [hold b hlt]; exact this
  · by_cases hc : c < H.length
    · rw [List.getElem?_append_left hc] at hx
      refine (hC.ch c x hx).mono (by simp [etaNew, show c ≠ H.length by omega]) (fun _ _ h => h) hm fun b n h => hold b (hC.sep _ _ _ h).2.1
    · have : c = H.length := by
        have := (List.getElem?_eq_some_iff.1 hx).1
        simp at this; omega
      subst this
      simp at hx; subst hx
      exact hch hm
  · rcases hin _ _ _ h1 with ⟨rfl, rfl, rfl⟩ | e1
    · rcases hin _ _ _ h2 with ⟨e, _, _⟩ | e2
      · exact e.symm
      · have := (hC.sep _ _ _ e2).2.1; omega
    · rcases hin _ _ _ h2 with ⟨e, rfl, _⟩ | e2
      · have := (hC.sep _ _ _ e1).2.1; omega
      · exact hC.inj _ _ _ _ _ e1 e2
  · rcases hin _ _ _ h with ⟨rfl, rfl, rfl⟩ | e1
    · refine ⟨?_, by rw [hw]; simp, by simp⟩
      cases hI : I w.heap.size with
      | none => rfl
      | some o => have := hC.imm _ _ hI; simp at this
    · have := hC.sep _ _ _ e1
      exact ⟨this.1, by rw [hw]; simp; omega, by simp; omega⟩
  · rcases hin _ _ _ h with ⟨rfl, rfl, rfl⟩ | e1
    · exact .inl (Nat.le_refl _)
    · exact .inr ⟨_, _, e1⟩

theorem range_ok (hC : Conc E I η H w) {t : TypeId} {l : List UInt8} (ht : isStrO E.P t = true) :
    ∃ x w', (Instr.range t (.string ⟨⟨l⟩⟩)).run E.P w = .ok x w' ∧ After E I η H w (H ++ [.iter l 0]) w' fun I' η' => RelA I' η' (H ++ [.iter l 0]) (.ptr H.length 0 0 0) x := by
  refine ⟨_, _, run_range_string w t ⟨⟨l⟩⟩ (isStrO_ok ht), ?_⟩
  refine new_iter0 (w' := w.iter ⟨⟨l⟩⟩ 0) (s := ⟨⟨l⟩⟩) hC rfl rfl rfl rfl _ (fun hm => ?_) (fun hm => ?_)
  · exact ⟨w.heap.size, by simp [etaNew], World.iter_heap w _ 0⟩
  · exact .ptr _ _ _ _ _ (by simp) (fun _ h => by simp at h) (fun _ _ _ h => by simp at h) (fun _ _ _ _ h => by simp at h) (fun s p h => ⟨w.heap.size, 0, by simp [etaNew], rfl⟩) ⟨_, rfl⟩ (fun _ _ _ _ h => by simp at h)
theorem relT_nil : RelA I η H (.tup [.bool false]) (.tuple #[.bool false]) := .tup _ _ rfl (fun k a h => by
  cases k with
  | zero => simp at h; subst h; exact relA_bool
  | succ k => simp at h)
theorem relT_3 {a : Bool} {n m : Int} : RelA I η H (.tup [.bool a, .int .i64 n, .int .i32 m]) (.tuple #[.bool a, .int .i64 n, .int .i32 m]) := .tup _ _ rfl (fun k x h => by
  match k with
  | 0 => simp at h; subst h; exact relA_bool
  | 1 => simp at h; subst h; exact relA_int
  | 2 => simp at h; subst h; exact relA_int
  | k + 3 => simp at h)
theorem next_ok (hC : Conc E I η H w) {c g r : Nat} {y : Value} {s : List UInt8} {pos : Nat} (ty : TypeId) (hr : RelA I η H (.ptr c g r 0) y) (hH : H[c]? = some (.iter s pos)) :
    (pos < s.length → ∃ x w', (Instr.next y true ty).run E.P w = .ok x w' ∧ After E I η H w (H.set c (.iter s (pos + (Utf8.decode ⟨⟨s⟩⟩ pos).2))) w' fun I' η' => RelA I' η' (H.set c (.iter s (pos + (Utf8.decode ⟨⟨s⟩⟩ pos).2))) (.tup [.bool true, .int .i64 pos, .int .i32 (Utf8.decode ⟨⟨s⟩⟩ pos).1]) x) ∧
    (¬ pos < s.length → ∃ x, (Instr.next y true ty).run E.P w = .ok x w ∧ RelA I η H (.tup [.bool false]) x) := by
  cases hr with
  | ptr _ _ _ _ _ hc hb hs hf hi hp hg =>
    obtain ⟨b, n, hη, rfl⟩ := hi _ _ hH
    obtain ⟨b', hη', hw⟩ := hC.ch _ _ hH
    rw [hη] at hη'; cases hη'
    have hlt : b < w.heap.size := (Array.getElem?_eq_some_iff.1 hw).1
    refine ⟨fun hpos => ?_, fun hpos => ?_⟩
    · have hpos' : pos < (⟨⟨s⟩⟩ : ByteArray).size := hpos
      let W : World := { w with heap := w.heap.setIfInBounds b (.stringIter ⟨⟨s⟩⟩ (pos + (Utf8.decode ⟨⟨s⟩⟩ pos).2)) }
      refine ⟨.tuple #[.bool true, .int .i64 pos, .int .i32 (Utf8.decode ⟨⟨s⟩⟩ pos).1], W, ?_, ?_⟩
      · simp [Instr.next, getObj, setObj, Sem.run, hw, hpos', goInt, W]
      · refine wrote (w' := W) hC hη hH (fun b' hb' => by simp [W, Array.getElem?_setIfInBounds, Ne.symm hb']) (by simp [W]) rfl rfl rfl ?_ (fun hm => ?_) (fun hm => relT_3)
        · intro z hz
          rcases set_get hz with ⟨_, rfl⟩ | ⟨e, _⟩
          · exact ⟨s, pos, hH, rfl⟩
          · exact absurd rfl e
        · exact ⟨b, hη, by simp [W, hlt]⟩
    · have hpos' : ¬ pos < (⟨⟨s⟩⟩ : ByteArray).size := hpos
      exact ⟨.tuple #[.bool false], by simp [Instr.next, getObj, Sem.run, hw, hpos'], relT_nil⟩
end
end Go.VI
