/- strconv.AppendInt at base 10 by the kit's shelf, turned to VI's relation between memory and chunks. The walks are those of Derived/Shelf/Strconv (AppendUint10, AppendInt10, Itoa1), their last step and their frame turned. -/
import Derived.Test.YtijkhfgkcndnpaaDoorVC
import Derived.Shelf.Strconv.AppendUint10
set_option linter.unusedSimpArgs false
set_option linter.unusedVariables false
namespace Go.VI
open Go.Proofs Go.Shelf Go.RowKit Go.Sort Go.Lib
variable {E : Env} {ρ : Ren} {I : Imm} {η : Eta} {H : Hp} {w : World}

theorem wpList_append_vi {ops : Array Oper} {rest : List Oper} {o : Oper} {a : Act} {Q : Exit → Act → World → Prop} (hgd : o.guard = none) (s x : Operand) (t t2 : TypeId)
    (ho : o.op = .call { callee := .builtin .append, args := #[s, x], argTypes := #[t, t2] }) {sa xa v : AV} {H' : Hp} (h : appendE E H t t2 sa xa = some (v, H')) (hC : Conc E I η H w)
    (ys yx : Value) (hs : a.eval s = ys) (hx : a.eval x = yx) (rs : RelA I η H sa ys) (rx : RelA I η H xa yx)
    (k : ∀ u w' I' η', Conc E I' η' H' w' → Trans I η w I' η' w' → Mono I η H I' η' H' → RelA I' η' H' v u → wpList E.P ops Q rest (a.put o.dst u) w') : wpList E.P ops Q (o :: rest) a w :=
  wpList_plain hgd fun _ hK => by
    obtain ⟨u, w', hr, I', η', k1, k2, k3, k4⟩ := append_ok (ty := o.type) hC h rs rx
    unfold Oper.wp execOp
    simp only [ho, resolve, invoke, builtin, Sem.run_bind, Sem.run_pure, Result.andThen_ok, List.map_toArray, List.map_cons, List.map_nil, hs, hx, hr]
    exact hK _ _ (k u w' I' η' k1 k2 k3 k4)

/-- a new block that stays as it is -/
theorem conc_new (hC : Conc E I η H w) {w2 : World} {cs : Array Value} {elem : TypeId} {fz : Nat × Nat} (ho : w2.os = w.os) (ht : w2.tape = w.tape) (hu : w2.output = w.output) (hsz : w.heap.size < w2.heap.size)
    (hold : ∀ b, b < w.heap.size → w2.heap[b]? = w.heap[b]?) (hnew : w2.heap[w.heap.size]? = some (.cells cs elem fz)) :
    ∃ I', Conc E I' η H w2 ∧ Trans I η w I' η w2 ∧ Mono I η H I' η H ∧ I' w.heap.size = some (.cells cs elem fz) := by
  have hI0 : I w.heap.size = none := by
    cases hI : I w.heap.size with
    | none => rfl
    | some o => have := hC.imm _ _ hI; simp at this
  let I' : Imm := fun b => if b = w.heap.size then some (.cells cs elem fz) else I b
  have hle : I.le I' := by
    intro b o hb
    have : b ≠ w.heap.size := fun e => by rw [e, hI0] at hb; cases hb
    simp only [I', if_neg this, hb]
  have hm : Mono I η H I' η H := mono_of hle (Nat.le_refl _) fun c hc => CStep.same rfl rfl
  refine ⟨I', ⟨fun b o hb => ?_, fun c x hx => (hC.ch c x hx).mono rfl hle hm fun b n h => hold b (hC.sep _ _ _ h).2.1, hC.inj, fun c b n h => ?_, fun g cells hg => (hC.glob g cells hg).mono hle⟩,
    ⟨ho, ht, hu, Nat.le_of_lt hsz, fun b hb _ => hold b hb, hle, fun b hb => ?_, fun c b n h => .inr ⟨_, _, h⟩⟩, hm, by simp [I']⟩
  · by_cases e : b = w.heap.size
    · subst e; simp only [I', if_true, Option.some.injEq] at hb; rw [hnew, hb]
    · simp only [I', if_neg e] at hb
      have := hC.imm b o hb
      rw [hold b (Array.getElem?_eq_some_iff.1 this).1]; exact this
  · obtain ⟨h1, h2, h3⟩ := hC.sep _ _ _ h
    exact ⟨by simp only [I', if_neg (show b ≠ w.heap.size by omega), h1], by omega, h3⟩
  · by_cases e : b = w.heap.size
    · exact .inr (.inl (by omega))
    · simp only [I', if_neg e] at hb; exact .inl hb

/-- what is appended by a slice of a string's bytes -/
theorem app_bytes {t t2 : TypeId} {s r : AV} {H' : Hp} {l : List UInt8} {ex : Bool} (ht : ∃ e, slO E.P t = some e) (h : appendE E H t t2 s (.i (.str l)) = some (r, H')) :
    appendE E H t t s (.i (.sl 1 (l.map fun b => [IV.v (.int .u8 b.toNat)]) ex)) = some (r, H') := by
  obtain ⟨e, he⟩ := ht
  unfold appendE at h ⊢
  rw [he] at h ⊢
  simp only [srcE, rowsE] at h ⊢
  simp only [he, Option.isSome_some, true_or, true_and]
  split at h
  · rename_i z b zv z' new ex' h1 h2 h3 h4
    simp only [Option.some.injEq, Prod.mk.injEq] at h4
    obtain ⟨rfl, rfl, rfl⟩ := h4
    simp only [h1, h2, h3]
    split at h
    · rename_i hc
      obtain ⟨c1, c2, c3, c4, c5, c6⟩ := hc
      rw [if_pos ⟨c1, c2, c3, c5, c6⟩]
      exact h
    · cases h
  · cases h

theorem powT_cell {g : Nat} (hC : Conc E I η H w) (hg : E.glob g = some powT) (j : Nat) (hj : j < 20) : w.cell? ⟨g, j, none⟩ = some (.int .u64 (Lib.pow10Tab.getD j 0)) := by
  have h := hC.glob g _ hg
  generalize hc : powT = cells at h
  generalize hp : Value.pointer (some ⟨g, 0, none⟩) = p at h
  cases h with
  | pt _ _ b off cs elem fz cv hI h1 h2 =>
    simp at hp
    obtain ⟨rfl, h0⟩ := hp
    subst hc
    have hjl : powT[j]? = some (.v (.int .u64 (Lib.pow10Tab.getD j 0))) := by
      have : j < Lib.pow10Tab.length := by rw [Lib.pow10Tab_length]; exact hj
      simp [powT, List.getD, this]
    have e1 := h1 j _ hjl
    have e2 := h2 j _ hjl
    generalize cv j = q at e1 e2
    cases e2 with
    | v x hx =>
      have e0 : off = 0 := by omega
      subst e0
      rw [Nat.zero_add] at e1
      simp [World.cell?, hC.imm _ _ hI, e1]
end Go.VI
