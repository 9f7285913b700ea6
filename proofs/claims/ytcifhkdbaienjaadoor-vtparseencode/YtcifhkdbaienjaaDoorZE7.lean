import Derived.Lib.LaidTab
import Derived.MakeChecks
import Derived.Test.YtcifhkdbaienjaaDoorZE6
set_option linter.unusedSimpArgs false
set_option linter.unusedVariables false
namespace Go.VI
open Go.Proofs
theorem extOK : ExtOK E := by
  intro f h hf
  have h2 := E_extI f h hf
  rcases h2 with ⟨rfl, rfl⟩ | h2
  · exact ext_appendInt (E := E) (ρ := Tryd.laysAI_ren) Tryd.laysAI rfl
  · exact h2.elim
theorem laid_tail {P : Program} {W : World} {x : String × DataW Unit} {l : List (String × DataW Unit)} (h : laidMet P (x :: l) W) : laidMet P l W := by
  obtain ⟨ps, ⟨g, t, cs, fuel, p, q, _, _, _, _, hr, rfl⟩, hnd, hrows⟩ := h
  exact ⟨q, hr, hnd.sublist (List.sublist_append_right _ _), fun b off hp => hrows b off (List.mem_append.2 (.inr hp))⟩
theorem glob_of_tab {P : Program} {W : World} {name : String} {g : Nat} (hg : P.globalNamed name = some g) (h : Lib.TabIs P W name .u64 Lib.pow10Tab) : RelI (imm0 W) (.pt powT 0) (.pointer (some ⟨g, 0, none⟩)) := by
  unfold Lib.TabIs World.var? at h
  rw [hg] at h
  simp only [Option.bind_some] at h
  split at h
  · rename_i cs e fz hh
    simp only [Option.some.injEq] at h
    refine .pt powT 0 g 0 cs e fz (fun k => .int .u64 (Lib.pow10Tab.getD k 0)) hh (fun k a hk => ?_) (fun k a hk => ?_)
    · have hl : k < Lib.pow10Tab.length := by
        have := (List.getElem?_eq_some_iff.1 hk).1
        simpa [powT] using this
      subst h
      simp [List.getD, hl]
    · have hl : k < Lib.pow10Tab.length := by
        have := (List.getElem?_eq_some_iff.1 hk).1
        simpa [powT] using this
      simp only [powT, List.getElem?_map, List.getElem?_eq_getElem hl, Option.map_some, Option.some.injEq] at hk
      subst hk
      simp [List.getD, hl]
      exact .v _ rfl
  · cases h
theorem globs {W : World} {name : String} (hn : Tryd.prog.globalNamed name = some (Tryd.laysAI_ren.g 17)) (h : Lib.TabIs Tryd.prog W name .u64 Lib.pow10Tab) : ∀ g cells, E.glob g = some cells → RelI (imm0 W) (.pt cells 0) (.pointer (some ⟨g, 0, none⟩)) := by
  intro g cells hg
  rcases E_globI g cells hg with ⟨rfl, rfl⟩ | h'
  · exact glob_of_tab hn h
  · exact h'.elim
end Go.VI

