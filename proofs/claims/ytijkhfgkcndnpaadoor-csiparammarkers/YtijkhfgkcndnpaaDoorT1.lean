/- strings.Trim at an ASCII cutset by the kit's shelf, as VI takes it. -/
import Derived.Test.YtijkhfgkcndnpaaDoorN1
import Derived.Shelf.Strings.SlTrimAscii
set_option linter.unusedSimpArgs false
set_option linter.unusedVariables false
namespace Go.VI
open Go.Proofs Go.Shelf Go.RowKit Go.Sort Go.Lib
variable {E : Env} {ρ : Ren} {I : Imm} {η : Eta} {H : Hp} {w : World}
/-- old memory as it was: what held holds -/
theorem conc_below (hC : Conc E I η H w) {w2 : World} (hb : Below w.heap.size w w2) : After E I η H w H w2 fun I' η' => I' = I ∧ η' = η := by
  have hold := hb.block
  refine ⟨I, η, ⟨fun b o h => ?_, fun c x hx => (hC.ch c x hx).mono rfl (fun _ _ h => h) (Mono.refl _ _ _) fun b n h => hold b (hC.sep _ _ _ h).2.1, hC.inj, fun c b n h => ?_, hC.glob⟩,
    ⟨hb.os, hb.tape, hb.output, hb.size, fun b h _ => hold b h, fun _ _ h => h, fun b h => .inl h, fun c b n h => .inr ⟨_, _, h⟩⟩, Mono.refl _ _ _, rfl, rfl⟩
  · have := hC.imm b o h
    rw [hold b (Array.getElem?_eq_some_iff.1 this).1]; exact this
  · obtain ⟨h1, h2, h3⟩ := hC.sep _ _ _ h
    exact ⟨h1, Nat.lt_of_lt_of_le h2 hb.size, h3⟩
theorem ext_trim (L : Lays.n160 E.P ρ) (h116 : (E.P.info? (ρ.t 116)).map (fun i => (i.zero, i.size)) = some (some (.agg (Array.replicate 256 (.bool false))), 256)) : Ext1 E (ρ.f 160) extTrim := by
  intro args H r H' hr I η w vs hC hA
  unfold extTrim at hr
  split at hr
  · rename_i s cs
    split at hr
    · rename_i hc
      obtain ⟨h1, h2, h3⟩ := hc
      cases hr
      obtain ⟨x, y, rfl, r1, r2⟩ := args_two hA
      obtain rfl := relA_str r1
      obtain rfl := relA_str r2
      refine (Any.strings_Trim_laid L h116 ⟨⟨s⟩⟩ ⟨⟨cs⟩⟩ w (by simpa [ByteArray.size] using h1) (by simpa [ByteArray.size] using h2) (ascii_of_all h3)).mono fun e w' ⟨he, hb⟩ => ?_
      subst he
      obtain ⟨I', η', k1, k2, k3, rfl, rfl⟩ := conc_below hC hb
      exact ⟨_, rfl, _, _, k1, k2, k3, .i _ _ (.str _)⟩
    · cases hr
  · cases hr
end Go.VI
