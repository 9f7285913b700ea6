/- strconv.AppendInt at base 10: the contract as VI takes it. -/
import Derived.Test.YtijkhfgkcndnpaaDoorN2
set_option linter.unusedSimpArgs false
set_option linter.unusedVariables false
namespace Go.VI
open Go.Proofs Go.Shelf Go.RowKit Go.Sort Go.Lib
variable {E : Env} {ρ : Ren} {I : Imm} {η : Eta} {H : Hp} {w : World}

set_option maxHeartbeats 6400000 in
set_option maxRecDepth 100000 in
theorem vi_AppendInt (L : LaysM.n249 E.P ρ) (u : Nat) (hu64 : u ≤ 9223372036854775807) (hC : Conc E I η H w) {s r : AV} {H' : Hp} {sv : Value} (rs : RelA I η H s sv)
    (htab : ∀ j, j < 20 → w.cell? ⟨ρ.g 17, j, none⟩ = some (.int .u64 (Lib.pow10Tab.getD j 0)))
    (h : appendE E H (ρ.t 37) (ρ.t 9) s (.i (.str (Lib.decDigits u))) = some (r, H')) :
    Calls E.P (ρ.f 249) #[sv, .int .i64 u, .int .i64 10] w fun e w' => ∃ x, e = .returned x ∧ After E I η H w H' w' fun I' η' => RelA I' η' H' r x := by
  have mixed := L.mixed
  have t5 := L.t5; have a5 := L.a5; have z5 := L.z5; have v5 := L.v5
  have t37 := L.t37; have u37 := run_underlying L.t37; have a37 := L.a37; have z37 := L.z37; have v37 := L.v37
  have t2 := L.t2; have a2 := L.a2; have z2 := L.z2; have v2 := L.v2
  have t3 := L.t3; have a3 := L.a3; have z3 := L.z3; have v3 := L.v3
  have t53 := L.t53; have a53 := L.a53; have z53 := L.z53; have v53 := L.v53
  have t4 := L.t4; have a4 := L.a4; have z4 := L.z4; have v4 := L.v4
  have e288 : ∀ args w, (callFunc (ρ.f 288) args).run E.P w = .ok (.enter (ρ.f 288) args) w := enters_of L.f288 (by kernel_rfl) rfl
  have hcall : Calls E.P (ρ.f 288) #[sv, .int .u64 u, .int .i64 10] w fun e w' => ∃ x, e = .returned x ∧ After E I η H w H' w' fun I' η' => RelA I' η' H' r x := by
    by_cases h100 : u < 100
    · exact vi_AppendUint_small { L with } u h100 hC rs h
    · exact vi_AppendUint_big { L with } u (by omega) (by omega) hC rs htab h
  have hn : ¬ ((u : Int) < 0) := by omega
  go_enter L.f249, Body.n249_ntmps ρ
  go_wp2_with (go_at_fn (ρ.f 288); refine (hcall).mono ?_; rintro e w2 ⟨v2, rfl, hA⟩)
  go_wp2
  first | go_ret | go_ret2
  exact ⟨v2, rfl, hA⟩

set_option maxRecDepth 100000 in
theorem vi_AppendIntP (L : LaysM.n176 E.P ρ) (u : Nat) (hu64 : u ≤ 9223372036854775807) (hC : Conc E I η H w) {s r : AV} {H' : Hp} {sv : Value} (rs : RelA I η H s sv)
    (htab : ∀ j, j < 20 → w.cell? ⟨ρ.g 17, j, none⟩ = some (.int .u64 (Lib.pow10Tab.getD j 0)))
    (h : appendE E H (ρ.t 37) (ρ.t 9) s (.i (.str (Lib.decDigits u))) = some (r, H')) :
    Calls E.P (ρ.f 176) #[sv, .int .i64 u, .int .i64 10] w fun e w' => ∃ x, e = .returned x ∧ After E I η H w H' w' fun I' η' => RelA I' η' H' r x := by
  have mixed := L.mixed
  have t5 := L.t5; have a5 := L.a5; have z5 := L.z5; have v5 := L.v5
  have t37 := L.t37; have u37 := run_underlying L.t37; have a37 := L.a37; have z37 := L.z37; have v37 := L.v37
  have t2 := L.t2; have a2 := L.a2; have z2 := L.z2; have v2 := L.v2
  have t3 := L.t3; have a3 := L.a3; have z3 := L.z3; have v3 := L.v3
  have e249 : ∀ args w, (callFunc (ρ.f 249) args).run E.P w = .ok (.enter (ρ.f 249) args) w := enters_of L.f249 (by kernel_rfl) rfl
  have hcall := vi_AppendInt { L with } u hu64 hC rs htab h
  go_enter L.f176, Body.n176_ntmps ρ
  go_wp2_with (go_at_fn (ρ.f 249); refine (hcall).mono ?_; rintro e w2 ⟨v2, rfl, hA⟩)
  go_wp2
  go_ret
  exact ⟨v2, rfl, hA⟩

theorem ext_appendInt (L : LaysM.n176 E.P ρ) (hg : E.glob (ρ.g 17) = some powT) : Ext1 E (ρ.f 176) (extAppendInt E.P (ρ.t 37) (ρ.t 9)) := by
  intro args H r H' hr I η w vs hC hA
  unfold extAppendInt at hr
  split at hr
  · rename_i s n b
    split at hr
    · rename_i hc
      obtain ⟨rfl, h0, h1⟩ := hc
      obtain ⟨x, y, z, rfl, r1, r2, r3⟩ := args_three hA
      obtain rfl := relA_v r2
      obtain rfl := relA_v r3
      obtain ⟨u, rfl⟩ : ∃ u : Nat, n = u := ⟨n.toNat, by omega⟩
      rw [appendE_P] at hr
      exact vi_AppendIntP L u (by omega) hC r1 (fun j hj => powT_cell hC hg j hj) hr
    · cases hr
  · cases hr
end Go.VI
