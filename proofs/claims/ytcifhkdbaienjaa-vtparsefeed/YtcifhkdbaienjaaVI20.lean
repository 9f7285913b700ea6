/- VI, part 20: readings of arguments, there and back. -/
import Derived.Test.YtcifhkdbaienjaaVI19
import Derived.ChangeSlices
import Derived.WideShapes
import Derived.RowKit
set_option linter.unusedSimpArgs false
set_option linter.unusedVariables false
namespace Go.VI
open Go.WideShapes Go.ChangeShapes Go.RowKit
section
variable {Hh : Type} {enc : TypeId × Value → Hh} {P : Program} {W : World}

theorem cell_old {W' : World} (h : Old W W') {a : Addr} {v : Value} (hc : W.cell? a = some v) : W'.cell? a = some v := by
  unfold World.cell? at hc ⊢
  split at hc
  · rename_i c e f hb
    rw [h.heap _ (Array.getElem?_eq_some_iff.1 hb).1, hb]; exact hc
  · cases hc
theorem read_ints {r : Reach} {b0 : Nat} {t e : TypeId} {k : IntKind} {v : Value} {d : DataW Hh} {ps : List MemPlace} (ht : P.underlying t = some (.slice e)) (he : P.underlying e = some (.int k)) (hc : P.cellsOf e = 1)
    (hval : Value.okWide P W r b0 t v) (hd : DataW.Trod enc P W 0 (fun _ => true) true t v d ps) :
    ∃ l : List Int, RelA (imm0 W) eta0 [] (.i (.sl 1 (l.map fun n => [IV.v (.int k n)]) false)) v ∧ (∀ n ∈ l, (Lit.int k n).wf = true) ∧
      ∀ W', Old W W' → ∀ sp : Nat → Bool, (∀ p ∈ ps, sp p.block = true) → DataW.Trod enc P W' 0 sp true t v d ps := by
  obtain ⟨a, len, cap, rfl⟩ := okWide_slice ht hval
  obtain ⟨fuel, hf⟩ := hd
  simp only [Value.cells] at hf
  rcases open_ints ht he hc hf with ⟨h1, h2⟩ | ⟨a', len', cap', zs, h1, hb, hl, hm, hz, hx, hcell, hw⟩
  · simp only [List.cons.injEq, Value.slice.injEq, and_true] at h1
    obtain ⟨rfl, rfl, rfl⟩ := h1
    cases h2
    exact ⟨[], .i _ _ (.nil 1 false none 0 (fun h => by cases h)), fun n h => by simp at h, fun W' _ sp _ => shut_slice_nil ht⟩
  · simp only [List.cons.injEq, Value.slice.injEq, and_true] at h1
    obtain ⟨rfl, rfl, rfl⟩ := h1
    cases hx
    simp only [if_true] at hz
    refine ⟨zs.take len, ?_, fun n hn => hw n (List.mem_of_mem_take hn), fun W' ho sp hs => ?_⟩
    · by_cases h0 : len = 0
      · subst h0
        exact .i _ _ (.nil 1 false _ cap (fun h => by cases h))
      · have hc0 := hcell 0 (by omega)
        obtain ⟨b, off, spot⟩ := a'
        unfold World.cell? at hc0
        split at hc0
        · rename_i cs elem fz hbk
          split at hc0
          · cases hc0
          · rename_i hsp
            have hspot : spot = none := by cases spot with | none => rfl | some _ => simp [Addr.add] at hsp
            subst hspot
            have ha : ∀ i, Addr.add ⟨b, off, none⟩ i = ⟨b, off + i, none⟩ := by intro i; unfold Addr.add; split <;> simp_all
            rw [ha] at hbk
            have hcs : ∀ i, i < zs.length → cs[off + i]? = some (.int k (zs.getD i 0)) := by
              intro i hi
              have := hcell i hi
              unfold World.cell? at this
              rw [ha] at this
              simp only at this hbk
              rw [hbk] at this
              simpa using this
            have hlen : ((zs.take len).map fun n => [IV.v (.int k n)]).length = len := by simp; omega
            have key := RelI.sl (I := imm0 W) 1 ((zs.take len).map fun n => [IV.v (.int k n)]) false b off cap cs elem fz (fun i _ => .int k (zs.getD i 0)) hbk (by rw [hlen]; omega) (fun h => by cases h)
              (fun i r hr => by simp only [List.getElem?_map, Option.map_eq_some_iff] at hr; obtain ⟨n, _, rfl⟩ := hr; rfl)
              (fun i r kk x hr hx => by
                simp only [List.getElem?_map, Option.map_eq_some_iff] at hr
                obtain ⟨n, hn, rfl⟩ := hr
                have hi := (List.getElem?_eq_some_iff.1 hn).1
                simp at hi
                cases kk with
                | zero => rw [Nat.mul_one, Nat.add_zero]; exact hcs i (by omega)
                | succ kk => simp at hx)
              (fun i r kk x hr hx => by
                simp only [List.getElem?_map, Option.map_eq_some_iff] at hr
                obtain ⟨n, hn, rfl⟩ := hr
                cases kk with
                | zero =>
                  simp at hx; subst hx
                  rw [List.getElem?_take] at hn
                  split at hn
                  · have : zs.getD i 0 = n := by simp [List.getD, hn]
                    rw [this]; exact .v _ rfl
                  · cases hn
                | succ kk => simp at hx)
            rw [hlen] at key
            exact .i _ _ key
        · cases hc0
    · refine ⟨2, ?_⟩
      have := shut_ints (enc := enc) (w := W') (base := 0) (spare := sp) (held := true) 0 ht he hc (Nat.zero_le _) hl hm (zs := zs) (a := a') (by
        by_cases h0 : zs.length = 0
        · have : cap = 0 := by omega
          have : len = 0 := by omega
          split <;> omega
        · have : sp a'.block = true := by
            obtain ⟨n, hn⟩ : ∃ n, zs.length = n + 1 := ⟨zs.length - 1, by omega⟩
            refine hs (.cell a'.block a'.off) ?_
            rw [hn]
            simp [MemPlace.row]
          rw [this]; simpa using hz) (fun i hi => cell_old ho (hcell i hi)) hw
      simpa [Value.cells] using this
end
end Go.VI
