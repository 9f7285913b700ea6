/- strconv.AppendInt at base 10, the walks (turned from Derived/Shelf/Strconv's Itoa1, AppendUint10, AppendInt10). -/
import Derived.Test.YtijkhfgkcndnpaaDoorN1
set_option linter.unusedSimpArgs false
set_option linter.unusedVariables false
namespace Go.VI
open Go.Proofs Go.Shelf Go.RowKit Go.Sort Go.Lib
variable {E : Env} {ρ : Ren} {I : Imm} {η : Eta} {H : Hp} {w : World}

set_option maxHeartbeats 2000000 in
set_option maxRecDepth 100000 in
theorem vi_numDigits {P : Program} (L : LaysM.n284 P ρ) (u : Nat) (h1 : 1 ≤ u) (h2 : u < 18446744073709551616) (w : World)
    (htab : ∀ j, j < 20 → w.cell? ⟨ρ.g 17, j, none⟩ = some (.int .u64 (Lib.pow10Tab.getD j 0))) :
    Calls P (ρ.f 284) #[.int .u64 u] w fun e w' => e = .returned (.int .i64 (Lib.nDigits u)) ∧ w' = w := by
  have mixed := L.mixed
  have t53 := L.t53; have a53 := L.a53; have z53 := L.z53; have v53 := L.v53
  have t3 := L.t3; have a3 := L.a3; have z3 := L.z3; have v3 := L.v3
  have t212 := L.t212; have a212 := L.a212; have z212 := L.z212; have v212 := L.v212
  have t0 := L.t0; have a0 := L.a0; have z0 := L.z0; have v0 := L.v0
  have t4 := L.t4; have a4 := L.a4; have z4 := L.z4; have v4 := L.v4
  have e129 : ∀ args w, (callFunc (ρ.f 129) args).run P w = .ok (.enter (ρ.f 129) args) w := enters_of L.f129 (by kernel_rfl) rfl
  have e317 : ∀ args w, (callFunc (ρ.f 317) args).run P w = .ok (.enter (ρ.f 317) args) w := enters_of L.f317 (by kernel_rfl) rfl
  have e318 : ∀ args w, (callFunc (ρ.f 318) args).run P w = .ok (.enter (ρ.f 318) args) w := enters_of L.f318 (by kernel_rfl) rfl
  obtain ⟨hnd, h19⟩ := Lib.numDigits_eq u h1 h2
  have hL : Lib.bitLen u ≤ 64 := Lib.bitLen_le u 64 (Nat.le_refl _) h2
  have hcell : w.cell? ⟨(ρ.g 17), Lib.l10 (Lib.bitLen u), none⟩ = some (.int .u64 ((10 ^ Lib.l10 (Lib.bitLen u) : Nat) : Int)) := by
    rw [htab _ (by omega), Lib.pow10Tab_at _ (by omega)]
  have hto : ((u : Int)).toNat = u := by omega
  generalize hq : Lib.l10 (Lib.bitLen u) = q at hnd h19 hcell
  generalize hT : 10 ^ q = T at hnd hcell
  have h20 : q < 20 := by omega
  have Hnd := Lib.hid hnd
  clear hnd htab
  go_enter L.f284, Body.n284_ntmps ρ
  go_wp2_with (first
    | (go_at_fn (ρ.f 129); refine (Any.bits_Len64 { L with } _ _ (by omega) (by omega)).mono ?_; rintro e w' ⟨rfl, rfl⟩)
    | (go_at_fn (ρ.f 317); refine (Any.internal_strconv_log10Pow2 { L with } _ (by first | exact hL | (rw [hto]; exact hL)) _).mono ?_; rintro e w' ⟨rfl, rfl⟩)
    | (go_at_fn (ρ.f 318); refine (Any.internal_strconv_bool2_int { L with } _ _).mono ?_; rintro e w' ⟨rfl, rfl⟩))
  all_goals go_ret
  all_goals (
    refine ⟨?_, rfl⟩
    have hnd := Hnd.out
    congr 2
    split at hnd <;> simp_all <;> omega)

set_option maxHeartbeats 6400000 in
set_option maxRecDepth 100000 in
theorem vi_AppendUint_small (L : LaysM.n288 E.P ρ) (u : Nat) (hu : u < 100) (hC : Conc E I η H w) {s r : AV} {H' : Hp} {sv : Value} (rs : RelA I η H s sv)
    (h : appendE E H (ρ.t 37) (ρ.t 9) s (.i (.str (Lib.decDigits u))) = some (r, H')) :
    Calls E.P (ρ.f 288) #[sv, .int .u64 u, .int .i64 10] w fun e w' => ∃ x, e = .returned x ∧ After E I η H w H' w' fun I' η' => RelA I' η' H' r x := by
  have mixed := L.mixed
  have t5 := L.t5; have a5 := L.a5; have z5 := L.z5; have v5 := L.v5
  have t37 := L.t37; have u37 := run_underlying L.t37; have a37 := L.a37; have z37 := L.z37; have v37 := L.v37
  have t53 := L.t53; have a53 := L.a53; have z53 := L.z53; have v53 := L.v53
  have t3 := L.t3; have a3 := L.a3; have z3 := L.z3; have v3 := L.v3
  have t4 := L.t4; have a4 := L.a4; have z4 := L.z4; have v4 := L.v4
  have t9 := L.t9; have a9 := L.a9; have z9 := L.z9; have v9 := L.v9
  have t171 := L.t171; have a171 := L.a171; have z171 := L.z171; have v171 := L.v171
  have t0 := L.t0; have a0 := L.a0; have z0 := L.z0; have v0 := L.v0
  have t173 := L.t173; have a173 := L.a173; have z173 := L.z173; have v173 := L.v173
  have e283 : ∀ args w, (callFunc (ρ.f 283) args).run E.P w = .ok (.enter (ρ.f 283) args) w := enters_of L.f283 (by kernel_rfl) rfl
  go_enter L.f288, Body.n288_ntmps ρ
  go_wp2_with (first
    | (go_at_fn (ρ.f 283); refine (Any.internal_strconv_small { L with } u hu _).mono ?_; rintro e w' ⟨rfl, rfl⟩)
    | (at_builtin; refine wpList_append_vi rfl _ _ (ρ.t 37) (ρ.t 9) rfl h hC _ _ rfl rfl rs (.i _ _ (.str _)) ?_))
  intro x w1 I1 η1 hC1 hT1 hm1 hr1
  go_wp2
  go_ret
  exact ⟨x, rfl, I1, η1, hC1, hT1, hm1, hr1⟩

set_option maxHeartbeats 12800000 in
set_option maxRecDepth 100000 in
theorem vi_AppendUint_big (L : LaysM.n288 E.P ρ) (u : Nat) (hu : 100 ≤ u) (hu64 : u < 18446744073709551616) (hC : Conc E I η H w) {s r : AV} {H' : Hp} {sv : Value} (rs : RelA I η H s sv)
    (htab : ∀ j, j < 20 → w.cell? ⟨ρ.g 17, j, none⟩ = some (.int .u64 (Lib.pow10Tab.getD j 0)))
    (h : appendE E H (ρ.t 37) (ρ.t 9) s (.i (.str (Lib.decDigits u))) = some (r, H')) :
    Calls E.P (ρ.f 288) #[sv, .int .u64 u, .int .i64 10] w fun e w' => ∃ x, e = .returned x ∧ After E I η H w H' w' fun I' η' => RelA I' η' H' r x := by
  have mixed := L.mixed
  have t5 := L.t5; have a5 := L.a5; have z5 := L.z5; have v5 := L.v5
  have t37 := L.t37; have u37 := run_underlying L.t37; have a37 := L.a37; have z37 := L.z37; have v37 := L.v37
  have t53 := L.t53; have a53 := L.a53; have z53 := L.z53; have v53 := L.v53
  have t3 := L.t3; have a3 := L.a3; have z3 := L.z3; have v3 := L.v3
  have t4 := L.t4; have a4 := L.a4; have z4 := L.z4; have v4 := L.v4
  have t9 := L.t9; have a9 := L.a9; have z9 := L.z9; have v9 := L.v9
  have t171 := L.t171; have a171 := L.a171; have z171 := L.z171; have v171 := L.v171
  have t0 := L.t0; have a0 := L.a0; have z0 := L.z0; have v0 := L.v0
  have t173 := L.t173; have a173 := L.a173; have z173 := L.z173; have v173 := L.v173
  have e284 : ∀ args w, (callFunc (ρ.f 284) args).run E.P w = .ok (.enter (ρ.f 284) args) w := enters_of L.f284 (by kernel_rfl) rfl
  have e285 : ∀ args w, (callFunc (ρ.f 285) args).run E.P w = .ok (.enter (ρ.f 285) args) w := enters_of L.f285 (by kernel_rfl) rfl
  have hu1 : 1 ≤ u := by omega
  have hnd20 : Lib.nDigits u ≤ 20 := by have := Lib.numDigits_eq u hu1 hu64; split at this <;> omega
  have hal : E.P.arrayLen (ρ.t 171) = 24 := by simp [Program.arrayLen, L.t171]
  have hsl : ∀ W, (Instr.sliceAt (ρ.t 171) (.pointer (some ⟨w.heap.size, 0, none⟩)) none (some (.int .i64 (Lib.nDigits u : Int))) none).run E.P W = .ok (.slice (some ⟨w.heap.size, 0, none⟩) (Lib.nDigits u) 24) W := fun W => by
    rw [run_sliceAt_array_h W (ρ.t 171) ⟨w.heap.size, 0, none⟩ (by simp [Program.arrayLen, Program.elem, L.t171]) .i64 (Lib.nDigits u : Int) (by omega) (by rw [hal]; omega)]
    go_simp
  have hH0 := Lib.holds_zero0 w (ρ.t 171) (Lib.nDigits u) (by omega)
  have hfmt := Any.internal_strconv_formatBase10 { L with } w.heap.size 0 24 u (Array.replicate (Lib.nDigits u) 0) (w.alloc (.cells Lib.zeros24 (ρ.t 171))) hH0 (by rw [Array.size_replicate]; exact Lib.lt_pow_nDigits u) hu64 (by rw [Array.size_replicate]; omega)
  rw [Array.size_replicate] at hfmt
  have HH0 := Lib.hid hH0
  have iu : (100 : Int) ≤ (u : Int) := by omega
  have htab1 : ∀ o : Obj, ∀ j, j < 20 → (w.alloc o).cell? ⟨ρ.g 17, j, none⟩ = some (.int .u64 (Lib.pow10Tab.getD j 0)) := fun o j hj => by
    have h0 := htab j hj
    have hlt := World.block_lt_of_cell? w _ h0
    rw [World.cell?_of_block (heap_alloc_old w o hlt)]
    exact h0
  clear hH0 hal
  go_enter L.f288, Body.n288_ntmps ρ
  go_wp2_with (first
    | (go_at_fn (ρ.f 284); refine (vi_numDigits { L with } u hu1 hu64 _ (htab1 _)).mono ?_; rintro e w' ⟨rfl, rfl⟩))
  go_at_fn (ρ.f 285)
  refine hfmt.mono ?_
  rintro e w' ⟨rfl, k, v', dk, rfl, hF⟩
  have hcells : ∀ j u', (Lib.byteCells (Lib.decDigits u))[j]? = some u' → ((putRow (fun (b : UInt8) => Value.int .u8 (b.toNat : Int)) (w.alloc (.cells Lib.zeros24 (ρ.t 171))) w.heap.size 0 dk).drewN k).cell? ((⟨w.heap.size, 0, none⟩ : Addr).add j) = some u' := by
    intro j u' hj
    have hjl : j < (Lib.decDigits u).length := by
      have h5 := (List.getElem?_eq_some_iff.1 hj).1
      rwa [Lib.byteCells_length] at h5
    have e5 : (Lib.byteCells (Lib.decDigits u))[j]? = some (Value.int .u8 ((Lib.decDigits u)[j].toNat : Int)) := by simp [Lib.byteCells, hjl]
    rw [e5] at hj
    cases hj
    rw [Lib.row_is_numeral hF j hjl, Lib.add_plain, World.cell?_drewN]
    exact cell?_putRow (fun (b : UInt8) => Value.int .u8 (b.toNat : Int)) _ w.heap.size 0 _ dk HH0.out (by rw [hF.size, Array.size_replicate]) j (by rw [hF.size]; rw [Lib.decDigits_length] at hjl; exact hjl)
  obtain ⟨os, eo⟩ := Lib.fin_at w (.cells Lib.zeros24 (ρ.t 171)) dk k 0
  have ho2 : ((putRow (fun (b : UInt8) => Value.int .u8 (b.toNat : Int)) (w.alloc (.cells Lib.zeros24 (ρ.t 171))) w.heap.size 0 dk).drewN k).os = w.os := by rw [eo]; rfl
  have ht2 : ((putRow (fun (b : UInt8) => Value.int .u8 (b.toNat : Int)) (w.alloc (.cells Lib.zeros24 (ρ.t 171))) w.heap.size 0 dk).drewN k).tape = w.tape := by rw [eo]; rfl
  have hu2 : ((putRow (fun (b : UInt8) => Value.int .u8 (b.toNat : Int)) (w.alloc (.cells Lib.zeros24 (ρ.t 171))) w.heap.size 0 dk).drewN k).output = w.output := by rw [eo]; rfl
  have hold2 : ∀ b, b < w.heap.size → ((putRow (fun (b : UInt8) => Value.int .u8 (b.toNat : Int)) (w.alloc (.cells Lib.zeros24 (ρ.t 171))) w.heap.size 0 dk).drewN k).heap[b]? = w.heap[b]? := fun b hb => by rw [eo]; exact Lib.heap_grow_old w k os b hb
  have hlen0 : 0 < (Lib.decDigits u).length := by
    rw [Lib.decDigits_length]
    have h9 := Lib.lt_pow_nDigits u
    rcases Nat.eq_zero_or_pos (Lib.nDigits u) with e | e
    · rw [e] at h9; omega
    · exact e
  generalize (putRow (fun (b : UInt8) => Value.int .u8 (b.toNat : Int)) (w.alloc (.cells Lib.zeros24 (ρ.t 171))) w.heap.size 0 dk).drewN k = W2 at hcells ho2 ht2 hu2 hold2 ⊢
  clear eo HH0 hfmt
  -- the new block holds the digits
  obtain ⟨cs, elem, fz, hnew⟩ : ∃ cs elem fz, W2.heap[w.heap.size]? = some (.cells cs elem fz) := by
    have h0 := hcells 0 (Value.int .u8 ((Lib.decDigits u)[0].toNat : Int)) (by simp [Lib.byteCells, hlen0])
    simp only [World.cell?, Lib.add_plain] at h0
    split at h0
    · rename_i cs elem fz hh; exact ⟨cs, elem, fz, hh⟩
    · cases h0
  have hsz2 : w.heap.size < W2.heap.size := (Array.getElem?_eq_some_iff.1 hnew).1
  obtain ⟨I1, hC1, hT1, hm1, hI1⟩ := conc_new hC ho2 ht2 hu2 hsz2 hold2 hnew
  have hrow : RelI I1 (.sl 1 ((Lib.decDigits u).map fun b => [IV.v (.int .u8 b.toNat)]) false) (.slice (some ⟨w.heap.size, 0, none⟩) (Lib.nDigits u) 24) := by
    have hl : ((Lib.decDigits u).map fun b => [IV.v (.int .u8 b.toNat)]).length = Lib.nDigits u := by rw [List.length_map, Lib.decDigits_length]
    rw [← hl]
    refine .sl 1 _ false w.heap.size 0 24 cs elem fz (fun i _ => .int .u8 ((Lib.decDigits u).getD i 0).toNat) hI1 (by rw [hl]; omega) (fun e => by cases e) (fun i r hi => ?_) (fun i r j a hi ha => ?_) (fun i r j a hi ha => ?_)
    all_goals
      simp only [List.getElem?_map, Option.map_eq_some_iff] at hi
      obtain ⟨b, hb, rfl⟩ := hi
    · rfl
    · have hj : j = 0 := by
        have := (List.getElem?_eq_some_iff.1 ha).1
        simp at this; omega
      subst hj
      have h0 := hcells i (.int .u8 b.toNat) (by simp [Lib.byteCells, hb])
      simp only [World.cell?, Lib.add_plain, hnew] at h0
      simp [List.getD, hb]
      simpa using h0
    · have hj : j = 0 := by
        have := (List.getElem?_eq_some_iff.1 ha).1
        simp at this; omega
      subst hj
      simp at ha; subst ha
      simp [List.getD, hb]
      exact .v _ rfl
  have h' := app_bytes (ex := false) ⟨ρ.t 5, by simp [slO, L.t37]⟩ h
  go_wp2_with (at_builtin; refine wpList_append_vi rfl _ _ (ρ.t 37) (ρ.t 37) rfl h' hC1 _ _ rfl rfl (hm1 _ _ rs) (.i _ _ hrow) ?_)
  intro x w3 I2 η2 hC2 hT2 hm2 hr2
  go_wp2
  go_ret
  exact ⟨x, rfl, I2, η2, hC2, hT1.trans hT2, hm1.trans hm2, hr2⟩
end Go.VI
