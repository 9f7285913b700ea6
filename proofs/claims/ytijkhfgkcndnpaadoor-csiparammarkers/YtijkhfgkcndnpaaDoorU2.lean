import Derived.Test.YtijkhfgkcndnpaaDoorU1
namespace Go.VI
open Go.Proofs
set_option maxRecDepth 100000
set_option linter.unusedSimpArgs false
set_option linter.unusedVariables false
set_option maxHeartbeats 4000000
theorem pw6 : (2 : Int) ^ min 6 IntKind.i32.bits = 64 := by decide
theorem and63_all : ∀ n : Nat, n < 256 → bitsE .and .u8 (n : Int) 63 = some ((n : Int) % 64) := by decide +kernel
theorem and63 {b : Int} (h0 : 0 ≤ b) (h1 : b ≤ 255) : bitsE .and .u8 b 63 = some (b % 64) := by
  obtain ⟨n, rfl⟩ := Int.eq_ofNat_of_zero_le h0
  exact and63_all n (by omega)
theorem or64 {v c : Int} (h0 : 0 ≤ v) (h1 : v < 1048576) (h2 : 0 ≤ c) (h3 : c < 64) : bitsE .or .i32 (v * 64) c = some (v * 64 + c) := by
  obtain ⟨n, rfl⟩ := Int.eq_ofNat_of_zero_le h0
  obtain ⟨m, rfl⟩ := Int.eq_ofNat_of_zero_le h2
  have e1 : BitVec.ofInt 32 ((n : Int) * 64) = BitVec.ofNat 32 (n * 64) := by
    rw [show (n : Int) * 64 = ((n * 64 : Nat) : Int) by omega]; rfl
  have e2 : BitVec.ofInt 32 (m : Int) = BitVec.ofNat 32 m := rfl
  have e3 : n * 64 ||| m = n * 64 + m := by
    have := Nat.shiftLeft_add_eq_or_of_lt (i := 6) (b := m) (by omega) n
    rw [Nat.shiftLeft_eq, show (2 : Nat) ^ 6 = 64 from rfl] at this
    exact this.symm
  show some (IntKind.i32.wrap ((BitVec.ofInt 32 ((n : Int) * 64) ||| BitVec.ofInt 32 (m : Int)).toNat : Nat)) = _
  rw [e1, e2, BitVec.toNat_or, BitVec.toNat_ofNat, BitVec.toNat_ofNat, Nat.mod_eq_of_lt (by omega), Nat.mod_eq_of_lt (by omega), e3, w_i32 (by omega) (by omega)]
  congr 1
structure Dec where
  (s : Sq) (out : List Int) (st : Int)
def SqOK (s : Sq) : Prop := s.mi = 0 ∨ (128 ≤ s.lo ∧ s.hi ≤ 191 ∧ 0 ≤ s.v ∧ (s.mi = 1 ∧ s.v < 32768 ∨ s.mi = 2 ∧ s.v < 512 ∨ s.mi = 3 ∧ s.v < 8))
def stepD (d : Dec) (i b : Int) : Dec :=
  if 0 < d.s.mi ∧ d.s.lo ≤ b ∧ b ≤ d.s.hi then
    ⟨⟨d.s.v * 64 + b % 64, d.s.mi - 1, 128, 191⟩, if d.s.mi - 1 = 0 then d.out ++ [d.s.v * 64 + b % 64] else d.out, d.st⟩
  else
    let o := if 0 < d.s.mi then d.out ++ [65533] else d.out
    ⟨beginS b, if b < 128 then o ++ [b] else if (beginS b).mi = 0 then o ++ [65533] else o, i⟩
def runD : List UInt8 → Nat → Dec → Dec
  | [], _, d => d
  | b :: r, i, d => runD r (i + 1) (stepD d i b.toNat)
theorem beginS_all : ∀ n : Nat, n < 256 → ((beginS n).mi = 0 ∨ (128 ≤ (beginS n).lo ∧ (beginS n).hi ≤ 191 ∧ 0 ≤ (beginS n).v ∧ ((beginS n).mi = 1 ∧ (beginS n).v < 32768 ∨ (beginS n).mi = 2 ∧ (beginS n).v < 512 ∨ (beginS n).mi = 3 ∧ (beginS n).v < 8))) := by decide +kernel
theorem beginS_ok (b : Int) (h0 : 0 ≤ b) (h1 : b ≤ 255) : SqOK (beginS b) := by
  obtain ⟨n, rfl⟩ := Int.eq_ofNat_of_zero_le h0
  exact beginS_all n (by omega)
theorem stepD_ok {d : Dec} (h : SqOK d.s) (i b : Int) (h0 : 0 ≤ b) (h1 : b ≤ 255) : SqOK (stepD d i b).s := by
  unfold stepD
  split
  · rename_i hc
    obtain ⟨c1, c2, c3⟩ := hc
    unfold SqOK at h ⊢
    simp only
    omega
  · exact beginS_ok b h0 h1
def rows32 (l : List Int) : List (List IV) := l.map fun n => [.v (.int .i32 n)]
theorem rows32_len (l : List Int) : (rows32 l).length = l.length := by simp [rows32]
theorem rows32_snoc (l : List Int) (n : Int) : rows32 l ++ [[.v (.int .i32 n)]] = rows32 (l ++ [n]) := by simp [rows32]
theorem stepD_len (d : Dec) (i b : Int) : (stepD d i b).out.length ≤ d.out.length + 2 := by
  unfold stepD; simp only; repeat' split
  all_goals (simp; try omega)
theorem sqC_cn (B : Nat) (H : Hp) (s : Sq) : cnL B H (sqC s) = sqC s := by simp [sqC, cnL, cnA]
theorem sqC_0 (s : Sq) : (sqC s)[0]? = some (.i (.v (.int .i32 s.v))) := rfl
theorem sqC_1 (s : Sq) : (sqC s)[1]? = some (.i (.v (.int .i64 s.mi))) := rfl
theorem sqC_2 (s : Sq) : (sqC s)[2]? = some (.i (.v (.int .u8 s.lo))) := rfl
theorem sqC_3 (s : Sq) : (sqC s)[3]? = some (.i (.v (.int .u8 s.hi))) := rfl
theorem sqC_drop (s : Sq) : (sqC s).drop 4 = [] := rfl
theorem sqC_take (s : Sq) : (sqC s).take 4 = sqC s := rfl
theorem byte_at {t : List UInt8} {k : Nat} (h : k < t.length) : t[k]? = some t[k] := by simp [h]
end Go.VI
