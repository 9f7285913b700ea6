/- VI, part 29: calls that hand a chunk on by reference. -/
import Derived.Test.YtcifhkdbaienjaaVI22
set_option linter.unusedSimpArgs false
set_option linter.unusedVariables false
namespace Go.VI

/-- one slice (or box) by reference, handed back unchanged; a plain answer -/
theorem isoK_ref {E : Env} {cl : CallF} {H : Hp} {f c gg n : Nat} {x : Chunk} {r : AV} (he : E.ext f = none) (hH : H[c]? = some x) (hx : x.refs = []) (hrr : refsA r = []) (hc : ∃ L, cl f [.ref 0 gg 0 n] [x] = some (r, x :: L)) :
    isoK E cl f [.ref c gg 0 n] H = some (r, H) := by
  obtain ⟨L, hc⟩ := hc
  have hxr : ∀ ρ, x.ren ρ = x := by
    intro ρ
    cases x with
    | box cells => exact congrArg Chunk.box ((refs_ren ρ).2 cells hx)
    | _ => rfl
  have h2 : ∀ ρ, renA ρ r = r := fun ρ => (refs_ren ρ).1 r hrr
  have hR := reach_one hH hx
  have hlt := (List.getElem?_eq_some_iff.1 hH)
  obtain ⟨hl, hv⟩ := hlt
  unfold isoK
  rw [he]
  simp [refsL, refsA, hR, renL, renA, posIn, hH, hxr, hc, hrr, hx, reach, h2, setAll]
  exact List.ext_getElem? fun i => by
    by_cases h : c = i
    · subst h; simp [hl, hv]
    · simp [h]
end Go.VI
