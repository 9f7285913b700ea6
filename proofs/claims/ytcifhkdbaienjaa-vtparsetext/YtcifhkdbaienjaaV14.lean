import Derived.Test.YtcifhkdbaienjaaV13
namespace Go.VI
open Go.Proofs
set_option maxRecDepth 100000
set_option linter.unusedSimpArgs false
set_option linter.unusedVariables false
set_option maxHeartbeats 4000000
/-! a proper parser stays proper -/
theorem runD_snoc : ∀ (l : List UInt8) (b : UInt8) (i : Nat) (d : Dec), runD (l ++ [b]) i d = stepD (runD l i d) ((i + l.length : Nat)) b.toNat
  | [], b, i, d => by simp [runD]
  | c :: l, b, i, d => by
    have := runD_snoc l b (i + 1) (stepD d i c.toNat)
    simp only [List.cons_append, runD, this, List.length_cons]
    rw [show i + 1 + l.length = i + (l.length + 1) by omega]
theorem beginS_big : ∀ n : Nat, n < 256 → ¬ (beginS n).mi = 0 → 128 ≤ n := by decide +kernel
/-- the bytes of the sequence that has begun lead from the start to the same sequence, with nothing yielded -/
def PendOK (t : List UInt8) (i : Nat) (d : Dec) : Prop := d.s.mi = 0 ∨ (0 ≤ d.st ∧ d.st ≤ i ∧ 0 < d.s.mi ∧ runD ((t.take i).drop d.st.toNat) 0 ⟨sq0, [], 0⟩ = ⟨d.s, [], 0⟩)
theorem pend_step {t : List UInt8} {i : Nat} (hi : i < t.length) {d : Dec} (h0 : 0 ≤ d.s.mi) (h : PendOK t i d) : 0 ≤ (stepD d i t[i].toNat).s.mi ∧ PendOK t (i + 1) (stepD d i t[i].toNat) := by
  have hb := beginS_mi t[i].toNat t[i].toNat_lt
  have hbig := beginS_big t[i].toNat t[i].toNat_lt
  have htk : t.take (i + 1) = t.take i ++ [t[i]] := by rw [List.take_succ_eq_append_getElem hi]
  by_cases hc : 0 < d.s.mi ∧ d.s.lo ≤ t[i].toNat ∧ (t[i].toNat : Int) ≤ d.s.hi
  · have hst : stepD d i t[i].toNat = ⟨⟨d.s.v * 64 + (t[i].toNat : Int) % 64, d.s.mi - 1, 128, 191⟩, if d.s.mi - 1 = 0 then d.out ++ [d.s.v * 64 + (t[i].toNat : Int) % 64] else d.out, d.st⟩ := by rw [stepD, if_pos hc]
    rw [hst]
    refine ⟨by simp only; omega, ?_⟩
    unfold PendOK at *
    simp only
    by_cases hm : d.s.mi - 1 = 0
    · exact .inl hm
    · right
      rcases h with h | ⟨g1, g2, g3, g4⟩
      · omega
      · refine ⟨g1, by omega, by omega, ?_⟩
        rw [htk, List.drop_append_of_le_length (by simp; omega), runD_snoc, g4, stepD, if_pos hc, if_neg hm]
  · have hst : (stepD d i t[i].toNat).s = beginS t[i].toNat ∧ (stepD d i t[i].toNat).st = i := by rw [stepD, if_neg hc]; exact ⟨rfl, rfl⟩
    unfold PendOK
    rw [hst.1, hst.2]
    refine ⟨hb.1, ?_⟩
    by_cases hm : (beginS t[i].toNat).mi = 0
    · exact .inl hm
    · right
      refine ⟨by omega, by omega, by omega, ?_⟩
      have h128 := hbig hm
      rw [htk, Int.toNat_natCast, List.drop_append_of_le_length (by simp; omega), List.drop_of_length_le (by simp; omega), List.nil_append]
      have z : (⟨sq0, [], 0⟩ : Dec).s.mi = 0 := rfl
      have hA : ¬ (t[i].toNat : Int) < 128 := by omega
      simp only [runD, stepD, z, Int.lt_irrefl, false_and, if_false, hA, hm]
      rfl
theorem pend_run : ∀ (t : List UInt8) (i : Nat) (d : Dec), i ≤ t.length → 0 ≤ d.s.mi → PendOK t i d → 0 ≤ (runD (t.drop i) i d).s.mi ∧ PendOK t t.length (runD (t.drop i) i d) := by
  intro t i d hi h0 h
  by_cases hlt : i < t.length
  · rw [List.drop_eq_getElem_cons hlt, runD]
    obtain ⟨k0, k1⟩ := pend_step hlt h0 h
    exact pend_run t (i + 1) _ hlt k0 k1
  · obtain rfl : i = t.length := by omega
    rw [List.drop_length, runD]
    exact ⟨h0, h⟩
termination_by t i => t.length - i
/-- what is pending yields nothing, and stays pending -/
theorem pend_idem (t : List UInt8) : decOut (decRest t) = [] ∧ decRest (decRest t) = decRest t := by
  obtain ⟨h0, h⟩ := pend_run t 0 ⟨sq0, [], 0⟩ (Nat.zero_le _) (Int.le_refl _) (.inl rfl)
  rw [List.drop_zero] at h0 h
  change 0 ≤ (decD t).s.mi at h0
  change PendOK t t.length (decD t) at h
  have hr : decRest t = if (decD t).s.mi = 0 then [] else t.drop (decD t).st.toNat := rfl
  rcases h with h | ⟨g1, g2, g3, g4⟩
  · rw [if_pos h] at hr; rw [hr]; exact ⟨rfl, rfl⟩
  · rw [if_neg (by omega)] at hr
    rw [List.take_length] at g4
    have hd : decD (decRest t) = ⟨(decD t).s, [], 0⟩ := by rw [hr]; exact g4
    refine ⟨by unfold decOut; rw [hd], ?_⟩
    have hr2 : decRest (decRest t) = if (decD (decRest t)).s.mi = 0 then [] else (decRest t).drop (decD (decRest t)).st.toNat := rfl
    rw [hr2, hd]
    simp only
    rw [if_neg (by omega)]; simp
theorem proper_ground (pe : List UInt8) : properS ⟨0, decRest pe, []⟩ = true := by
  obtain ⟨h1, h2⟩ := pend_idem pe
  simp [properS, h1, h2]
theorem proper_zero (k : Int) (h : 0 ≤ k ∧ k ≤ 3) : properS ⟨k, [], []⟩ = true := by
  have : k = 0 ∨ k = 1 ∨ k = 2 ∨ k = 3 := by omega
  rcases this with rfl | rfl | rfl | rfl <;> simp [properS, decOut, decRest, decD, runD, sq0]
theorem dec_nil : decOut [] = [] ∧ decRest [] = [] := ⟨rfl, rfl⟩
theorem proper_gr {p : Ps} (h : properS p = true) (h0 : p.st = 0) : p.bu = [] := by
  unfold properS at h
  rw [if_pos h0] at h
  simp only [Bool.and_eq_true, beq_iff_eq] at h
  exact h.1.1
theorem proper_plain {p : Ps} (h0 : p.st = 0) (hb : p.bu = []) (b : UInt8) : properS (plainS p b).1 = true := by
  unfold plainS
  rw [h0, hb]
  repeat' split
  · exact proper_ground _
  · exact proper_zero 1 (by omega)
  · exact proper_zero 0 (by omega)
  · exact proper_zero 0 (by omega)
theorem proper_common {p : Ps} (hp : properS p = true) (h0 : p.st ≠ 0) {b : UInt8} {q : Ps × List Ev} (hq : commonS p b = some q) : properS q.1 = true := by
  unfold commonS at hq
  repeat' split at hq
  all_goals first | cases hq | skip
  all_goals first | exact hp | exact proper_zero 1 (by omega) | exact proper_zero 0 (by omega) | exact proper_plain rfl rfl b
theorem common_none {p : Ps} {b : UInt8} (h : commonS p b = none) : 32 ≤ (b.toNat : Int) ∧ (b.toNat : Int) < 127 := by
  unfold commonS at h
  repeat' split at h
  all_goals first | (cases h; done) | omega
theorem any_snoc {P : UInt8 → Bool} {l : List UInt8} {b : UInt8} (h : l.any P = false) (hb : P b = false) : (l ++ [b]).any P = false := by simp [List.any_append, h, hb]
theorem outB_f {lo hi : Int} {b : UInt8} (h1 : lo ≤ b.toNat) (h2 : (b.toNat : Int) ≤ hi) : outB lo hi b = false := by simp [outB]; omega
/-- the three conditions on a parser within a sequence -/
def bufOK (bu : List UInt8) (m : Nat) (hi : Int) : Bool := decide (bu.length ≤ m) && !bu.any (outB 32 hi)
theorem buf_app {bu : List UInt8} {m : Nat} {hi : Int} (h : bufOK bu m hi = true) {b : UInt8} (h1 : 32 ≤ (b.toNat : Int)) (h2 : (b.toNat : Int) ≤ hi) : bufOK (if (bu.length : Int) < m then bu ++ [b] else bu) m hi = true := by
  split
  · rename_i hl
    unfold bufOK at *
    simp only [Bool.and_eq_true, decide_eq_true_eq, Bool.not_eq_true'] at *
    refine ⟨by simp; omega, any_snoc h.2 (outB_f h1 h2)⟩
  · exact h
theorem proper_1 {pe bu : List UInt8} : properS ⟨1, pe, bu⟩ = ((pe == []) && bufOK bu 3 47) := by
  unfold properS bufOK
  cases pe <;> simp
theorem proper_2 {pe bu : List UInt8} : properS ⟨2, pe, bu⟩ = ((pe == []) && bufOK bu 257 63) := by
  unfold properS bufOK
  cases pe <;> simp
theorem proper_3 {pe bu : List UInt8} : properS ⟨3, pe, bu⟩ = ((pe == []) && bufOK bu 256 255) := by
  unfold properS bufOK
  cases pe <;> simp
theorem proper_4 {pe bu : List UInt8} : properS ⟨4, pe, bu⟩ = ((pe == []) && bufOK bu 256 255) := by
  unfold properS bufOK
  cases pe <;> simp
theorem proper_st {p : Ps} (h : properS p = true) : p.st = 0 ∨ p.st = 1 ∨ p.st = 2 ∨ p.st = 3 ∨ p.st = 4 := by
  unfold properS at h
  split at h
  · exact .inl (by assumption)
  · split at h
    · repeat' split at h
      all_goals first | (cases h; done) | omega
    · cases h
theorem proper_escaped {p : Ps} (hp : properS p = true) (hs : p.st = 1) (b : UInt8) : properS (escapedS p b).1 = true := by
  unfold escapedS
  cases hq : commonS p b with
  | some q => exact proper_common hp (by omega) hq
  | none =>
    have hb := common_none hq
    simp only
    split
    · rename_i h47
      obtain ⟨st, pe, bu⟩ := p
      dsimp only at hs
      subst hs
      rw [proper_1] at hp
      simp only [Bool.and_eq_true] at hp
      simp only [appS]
      rw [proper_1]
      simp only [Bool.and_eq_true]
      exact ⟨hp.1, buf_app hp.2 hb.1 h47⟩
    · split
      · exact proper_zero 2 (by omega)
      · split
        · exact proper_zero 3 (by omega)
        · exact proper_zero 0 (by omega)
theorem proper_read {p : Ps} (hp : properS p = true) (b : UInt8) : properS (readS p b).1 = true := by
  have hst := proper_st hp
  unfold readS
  split
  · exact proper_plain (by assumption) (proper_gr hp (by assumption)) b
  · rename_i h0
    split
    · split
      · exact proper_zero 0 (by omega)
      · exact proper_escaped (proper_zero 1 (by omega)) rfl b
    · rename_i h4
      split
      · exact proper_escaped hp (by assumption) b
      · rename_i h1
        split
        · rename_i h2
          unfold sequencedS
          cases hq : commonS p b with
          | some q => exact proper_common hp h0 hq
          | none =>
            have hb := common_none hq
            simp only
            split
            · rename_i h63
              obtain ⟨st, pe, bu⟩ := p
              dsimp only at h2
              subst h2
              rw [proper_2] at hp
              simp only [Bool.and_eq_true] at hp
              simp only [appS]
              rw [proper_2]
              simp only [Bool.and_eq_true]
              exact ⟨hp.1, buf_app hp.2 hb.1 h63⟩
            · exact proper_zero 0 (by omega)
        · rename_i h2
          have h3 : p.st = 3 := by omega
          obtain ⟨st, pe, bu⟩ := p
          dsimp only at h3
          subst h3
          unfold commandedS
          split
          · exact proper_zero 0 (by omega)
          · split
            · rw [proper_4]; rw [proper_3] at hp; exact hp
            · split
              · exact proper_zero 0 (by omega)
              · split
                · rename_i h32
                  rw [proper_3] at hp
                  simp only [Bool.and_eq_true] at hp
                  simp only [appS]
                  rw [proper_3]
                  simp only [Bool.and_eq_true]
                  have := b.toNat_lt
                  exact ⟨hp.1, buf_app hp.2 h32 (by omega)⟩
                · exact hp
theorem proper_run : ∀ (s : List UInt8) {p : Ps}, properS p = true → properS (runF s p).1 = true
  | [], p, h => h
  | b :: r, p, h => proper_run r (proper_read h b)
theorem proper_start (p : Ps) : properS (startS p) = true := by
  unfold startS; split
  · assumption
  · exact proper_zero 0 (by omega)
theorem start_of {p : Ps} (h : properS p = true) : startS p = p := by unfold startS; rw [if_pos h]
theorem feed_start (p : Ps) (s : List UInt8) : startS (feedS p s).1 = (feedS p s).1 := start_of (proper_run s (proper_start p))
theorem runF_app : ∀ (a b : List UInt8) (p : Ps), runF (a ++ b) p = ((runF b (runF a p).1).1, (runF a p).2 ++ (runF b (runF a p).1).2)
  | [], b, p => by simp [runF]
  | x :: a, b, p => by
    have ih := runF_app a b (readS p x).1
    simp only [List.cons_append, runF, ih, List.append_assoc]
theorem feed_app (p : Ps) (a b : List UInt8) : feedS p (a ++ b) = ((feedS (feedS p a).1 b).1, (feedS p a).2 ++ (feedS (feedS p a).1 b).2) := by
  have h := feed_start p a
  simp only [feedS] at h ⊢
  rw [h, runF_app]
/-! a cancel -/
theorem cancel_read {p : Ps} (h : properS p = true) : readS p 24 = (p0, if p.st = 0 then lostS p.pe else []) := by
  have hst := proper_st h
  have hg := proper_gr h
  obtain ⟨st, pe, bu⟩ := p
  dsimp only at hst hg ⊢
  rcases hst with rfl | rfl | rfl | rfl | rfl
  · rw [hg rfl]; rfl
  · rfl
  · rfl
  · rfl
  · rfl
theorem cancel_feed {p : Ps} (h : properS p = true) : feedS p [24] = (p0, if p.st = 0 then lostS p.pe else []) := by
  unfold feedS
  rw [start_of h]
  simp only [runF, cancel_read h, List.append_nil]
end Go.VI
