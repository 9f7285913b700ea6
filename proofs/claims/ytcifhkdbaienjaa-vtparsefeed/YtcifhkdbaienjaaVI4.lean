/- VI, part 4: the light operations, all of them. -/
import Derived.Test.YtcifhkdbaienjaaVI3
set_option linter.unusedSimpArgs false
set_option linter.unusedVariables false
namespace Go.VI
section
variable {E : Env} {I : Imm} {η : Eta} {H : Hp} {w : World}

theorem addPtr_ok {n : Nat} {x v : AV} {y : Value} (h : addPtr n x = some v) (r : RelA I η H x y) : ∃ a : Addr, y = .pointer (some a) ∧ RelA I η H v (.pointer (some (a.add n))) := by
  unfold addPtr at h
  split at h
  · rename_i cells off
    cases h
    cases relA_i r with
    | pt cells o b off' cs elem fz cv hI h1 h2 =>
      refine ⟨_, rfl, ?_⟩
      rw [add_none, Nat.add_assoc]
      exact .i _ _ (.pt cells (off + n) b off' cs elem fz cv hI h1 h2)
  · rename_i c g r' k
    cases h
    cases r with
    | ptr c g r k v hc hb hs hf hi hp hg =>
      obtain ⟨a, rfl⟩ := hp
      refine ⟨a, rfl, .ptr c g r' (k + n) _ hc ?_ ?_ ?_ ?_ ⟨_, rfl⟩ hg⟩
      · intro cells hH
        obtain ⟨b, m, h1, h2⟩ := hb _ hH
        cases h2
        exact ⟨b, m, h1, by rw [add_none]⟩
      · intro sz rows ex hH
        obtain ⟨b, m, h1, h2⟩ := hs _ _ _ hH
        cases h2
        exact ⟨b, m, h1, by rw [add_none, Nat.add_assoc]⟩
      · intro sz rows ex row hH hrow
        cases hf _ _ _ _ hH hrow with
        | pt cells o b off' cs elem fz cv hI h1 h2 =>
          rw [add_none, Nat.add_assoc]
          exact .pt row (k + n) b off' cs elem fz cv hI h1 h2
      · intro s p hH
        obtain ⟨b, m, h1, h2⟩ := hi _ _ hH
        cases h2
        exact ⟨b, m, h1, by rw [add_none]⟩
  · cases h

theorem field_ok {t f : Nat} {x v : AV} {y : Value} {off ty z : Nat} (hf : fldO E.P t f = some (off, ty)) (hz : szO E.P ty = some z) (hp : 0 < z)
    (h : addPtr off x = some v) (r : RelA I η H x y) : ∃ u, (Instr.fieldAt t y f).run E.P w = .ok u w ∧ RelA I η H v u := by
  obtain ⟨fs, fd, hu, hfd, rfl, rfl⟩ := fldO_ok hf
  obtain ⟨a, rfl, hr⟩ := addPtr_ok h r
  refine ⟨_, ?_, hr⟩
  have hz' : ¬ z = 0 := by omega
  simp [Instr.fieldAt, run_underlying hu, hfd, Instr.sureAddr, fieldPlace, (szO_ok hz w).1, hz']

theorem sl_row {sz : Nat} {rows : List (List IV)} {ex : Bool} {y : Value} (h : RelI I (.sl sz rows ex) y) {n : Nat} {row : List IV} (hr : rows[n]? = some row) :
    ∃ b off cap, y = .slice (some ⟨b, off, none⟩) rows.length cap ∧ RelI I (.pt row 0) (.pointer (some ⟨b, off + n * sz, none⟩)) := by
  cases h with
  | nil => simp at hr
  | sl sz rows ex b off cap cs elem fz cv hI hc hx hl h1 h2 =>
    refine ⟨b, off, cap, rfl, ?_⟩
    have := RelI.pt (I := I) row 0 b (off + n * sz) cs elem fz (cv n) hI (fun k a ha => h1 n row k a hr ha) (fun k a ha => h2 n row k a hr ha)
    simpa using this

theorem idxAddr_ok {t : TypeId} {x ix v : AV} {y j : Value} (h : idxAddrE E H t x ix = some v) (hC : Conc E I η H w) (r : RelA I η H x y) (rj : RelA I η H ix j) :
    ∃ u, (Instr.indexAt t y j).run E.P w = .ok u w ∧ RelA I η H v u := by
  unfold idxAddrE at h
  split at h
  · rename_i k n
    rw [relA_v rj]
    split at h
    · rename_i len e _ ha
      split at h
      · rename_i z hz
        split at h
        · rename_i hn
          obtain ⟨a, rfl, hr⟩ := addPtr_ok h r
          refine ⟨_, ?_, hr⟩
          simp [Instr.indexAt, asIntOf, run_underlying (arrO_ok ha), Instr.sureAddr, hn, (szO_ok hz w).1]
        · cases h
      · cases h
    · rename_i e _ hs
      split at h
      · rename_i z sz rows ex hz
        split at h
        · rename_i hn
          obtain ⟨hn0, rfl⟩ := hn
          split at h
          · rename_i row hrow
            cases h
            obtain ⟨b, off, cap, rfl, hp⟩ := sl_row (relA_i r) hrow
            have hlt : n < rows.length := by have := (List.getElem?_eq_some_iff.1 hrow).1; omega
            refine ⟨_, ?_, .i _ _ hp⟩
            simp [Instr.indexAt, asIntOf, run_underlying (slO_ok hs), hn0, hlt, (szO_ok hz w).1, add_none]
          · cases h
        · cases h
      · rename_i z c g off len hz
        split at h
        · rename_i sz g' rows ex hH
          split at h
          · rename_i hn
            obtain ⟨hn0, hn1, rfl, rfl⟩ := hn
            cases h
            cases r with
            | ref c g off len v hc hs' hf hp hg =>
              obtain ⟨hle, a, cap, rfl, hbk⟩ := hs' _ _ _ hH
              rcases hbk with ⟨he, _⟩ | ⟨b, m, he, _, _, ha⟩
              · exfalso
                obtain ⟨_, _, h3⟩ := hC.ch _ _ hH
                rcases h3 with ⟨_, h4⟩ | ⟨b, _, _, _, h4, _⟩
                · subst h4; simp at hle; omega
                · rw [he] at h4; cases h4
              · rcases ha with rfl | ⟨h0, _⟩
                · refine ⟨.pointer (some ⟨b, off * sz + n.toNat * sz, none⟩), by simp [Instr.indexAt, asIntOf, run_underlying (slO_ok hs), hn0, hn1, (szO_ok hz w).1, add_none], ?_⟩
                  refine .ptr c g (off + n.toNat) 0 _ hc ?_ ?_ ?_ ?_ ⟨_, rfl⟩ hg
                  · intro cells h; rw [hH] at h; cases h
                  · intro sz2 rows2 ex2 h; rw [hH] at h; cases h
                    exact ⟨b, m, he, by rw [Nat.add_mul, Nat.add_zero]⟩
                  · intro _ _ _ _ h; rw [hH] at h; cases h
                  · intro _ _ h; rw [hH] at h; cases h
                · omega
          · cases h
        · rename_i sz g' rows ex hH
          split at h
          · rename_i hn
            obtain ⟨hn0, hn1, rfl, rfl⟩ := hn
            cases h
            cases r with
            | ref c g off len v hc hs' hf hp hg =>
              obtain ⟨hle, hri⟩ := hf _ _ _ hH
              have hlt : off + n.toNat < rows.length := by omega
              have hrow : ((rows.drop off).take len)[n.toNat]? = some rows[off + n.toNat] := by
                rw [List.getElem?_take, if_pos (by omega), List.getElem?_drop, List.getElem?_eq_getElem hlt]
              obtain ⟨b, o, cap, rfl, hpt⟩ := sl_row hri hrow
              have hlen : ((rows.drop off).take len).length = len := by simp; omega
              rw [hlen] at *
              refine ⟨.pointer (some ⟨b, o + n.toNat * sz, none⟩), by simp [Instr.indexAt, asIntOf, run_underlying (slO_ok hs), hn0, hn1, (szO_ok hz w).1, add_none], ?_⟩
              refine .ptr c g (off + n.toNat) 0 _ hc ?_ ?_ ?_ ?_ ⟨_, rfl⟩ hg
              · intro cells h; rw [hH] at h; cases h
              · intro sz2 rows2 ex2 h; rw [hH] at h; cases h
              · intro sz2 rows2 ex2 row h hr; rw [hH] at h; cases h
                rw [List.getElem?_eq_getElem hlt] at hr; cases hr; exact hpt
              · intro _ _ h; rw [hH] at h; cases h
          · cases h
        · cases h
      · cases h
    · cases h
  · cases h

theorem agg_part {cells m : List AV} {cs : Array Value} {off z : Nat} (hl : cs.size = cells.length) (hr : ∀ (k : Nat) (a : AV), cells[k]? = some a → RelA I η H a (cs.getD k undef))
    (h : take cells off z = some m) : RelA I η H (.agg m) (.agg (cs.extract off (off + z))) := by
  obtain ⟨h1, h2⟩ := take_get h
  have hle : off + z ≤ cells.length := by unfold take at h; split at h; · assumption
                                          · cases h
  refine .agg _ _ (by simp; omega) fun k a ha => ?_
  have hk : k < z := by rw [← h1]; exact (List.getElem?_eq_some_iff.1 ha).1
  obtain ⟨a', h3, h4⟩ := h2 k hk
  rw [ha] at h3; cases h3
  have := hr _ _ h4
  have e : (cs.extract off (off + z)).getD k undef = cs.getD (off + k) undef := by
    simp only [Array.getD_eq_getD_getElem?, Array.getElem?_extract]
    rw [if_pos (by omega)]
  rw [e]; exact this

theorem idx_ok {t : TypeId} {x ix v : AV} {y j : Value} (h : idxE E t x ix = some v) (r : RelA I η H x y) (rj : RelA I η H ix j) :
    ∃ u, (Instr.index t y j).run E.P w = .ok u w ∧ RelA I η H v u := by
  unfold idxE at h
  split at h
  · rename_i l k n
    rw [relA_v rj, relA_str r]
    split at h
    · rename_i hn
      simp only [Option.map_eq_some_iff] at h
      obtain ⟨b, hb, rfl⟩ := h
      refine ⟨.int .u8 b.toNat, ?_, relA_int⟩
      have : (⟨⟨l⟩⟩ : ByteArray)[n.toNat]? = some b := by
        have hlt := (List.getElem?_eq_some_iff.1 hb).1
        have hv := (List.getElem?_eq_some_iff.1 hb).2
        rw [getElem?_pos _ _ (by simpa [size_mk] using hlt)]
        congr 1
      simp [Instr.index, asIntOf, run_underlying (isStrO_ok hn.2), hn.1, this]
    · cases h
  · rename_i cells k n
    rw [relA_v rj]
    obtain ⟨cs, rfl, hl, hr⟩ := relA_agg r
    split at h
    · rename_i len e ha
      split at h
      · rename_i z hz hag
        split at h
        · rename_i hn
          simp only [Option.map_eq_some_iff] at h
          obtain ⟨m, hm, rfl⟩ := h
          refine ⟨_, ?_, agg_part hl hr hm⟩
          simp [Instr.index, asIntOf, run_underlying (arrO_ok ha), hn, (szO_ok hz w).1, part, aggO_ok hag]
        · cases h
      · rename_i z hz hag
        split at h
        · rename_i hn
          have hlt := (List.getElem?_eq_some_iff.1 h).1
          refine ⟨_, ?_, hr _ _ h⟩
          simp only [Instr.index, asIntOf, Sem.run_bind, Sem.run_pure, Result.andThen_ok, run_underlying (arrO_ok ha), hn, if_true, Sem.run_ite, (szO_ok hz w).1, part, aggO_ok hag, and_self]
          simp only [Bool.false_eq_true, if_false]
          rw [getD_eq cs _ (by omega)]
          simp
        · cases h
      · cases h
    · cases h
  · cases h

theorem fieldE_ok {t : TypeId} {f : Nat} {x v : AV} {y : Value} (h : fieldE E t x f = some v) (r : RelA I η H x y) :
    ∃ u, (Instr.field t y f).run E.P w = .ok u w ∧ RelA I η H v u := by
  unfold fieldE at h
  split at h
  · rename_i cells off ty hf
    obtain ⟨fs, fd, hu, hfd, rfl, rfl⟩ := fldO_ok hf
    obtain ⟨cs, rfl, hl, hr⟩ := relA_agg r
    split at h
    · rename_i z hz hag
      simp only [Option.map_eq_some_iff] at h
      obtain ⟨m, hm, rfl⟩ := h
      exact ⟨_, by simp [Instr.field, run_underlying hu, hfd, asAgg, part, aggO_ok hag, (szO_ok hz w).1], agg_part hl hr hm⟩
    · rename_i z hz hag
      have hlt := (List.getElem?_eq_some_iff.1 h).1
      refine ⟨_, ?_, hr _ _ h⟩
      simp only [Instr.field, Sem.run_bind, run_underlying hu, Result.andThen_ok, hfd, asAgg, Sem.run_pure, part, aggO_ok hag, Bool.false_eq_true, if_false, Sem.run_ite]
      rw [getD_eq cs _ (by omega)]
      simp
    · cases h
  · cases h
end
end Go.VI
