/- How many bits a word has: math/bits.OnesCount64's reckoning, in plain numbers. No condition. -/
import Derived.Lib.BitFns
namespace Go.Proofs.YteglnekgnbjkoaaDoor
namespace Pop
def M (c : Nat) : Nat → Nat
  | 0 => 0
  | n + 1 => c + 256 * M c n
theorem and_byte (a b c d : Nat) (ha : a < 256) (hc : c < 256) : (a + 256 * b) &&& (c + 256 * d) = (a &&& c) + 256 * (b &&& d) := by
  have hac : a &&& c < 2 ^ 8 := Nat.and_lt_two_pow _ (by omega)
  apply Nat.eq_of_testBit_eq
  intro i
  rw [Nat.add_comm a, Nat.add_comm c, Nat.add_comm (a &&& c), show (256 : Nat) = 2 ^ 8 from rfl, Nat.testBit_and, Nat.testBit_two_pow_mul_add _ (by omega), Nat.testBit_two_pow_mul_add _ (by omega), Nat.testBit_two_pow_mul_add _ hac]
  split <;> rw [Nat.testBit_and]
def g1 (b : Nat) : Nat := ((b / 2) &&& 85) + (b &&& 85)
def g2 (b : Nat) : Nat := ((b / 4) &&& 51) + (b &&& 51)
def f1 (n x : Nat) : Nat := ((x / 2) &&& M 85 n) + (x &&& M 85 n)
def f2 (n x : Nat) : Nat := ((x / 4) &&& M 51 n) + (x &&& M 51 n)
def f3 (n x : Nat) : Nat := (x / 16 + x) &&& M 15 n
theorem d1 : ∀ b : Fin 256, ∀ t : Fin 2, ((b.val / 2 + 128 * t.val) &&& 85) = (b.val / 2) &&& 85 := by decide +kernel
theorem d2 : ∀ b : Fin 256, ∀ t : Fin 4, ((b.val / 4 + 64 * t.val) &&& 51) = (b.val / 4) &&& 51 := by decide +kernel
theorem d3 : ∀ b : Fin 256, g1 b.val < 256 ∧ g2 (g1 b.val) < 256 ∧ g2 (g1 b.val) / 16 ≤ 4 ∧ g2 (g1 b.val) % 16 ≤ 4 ∧ (g2 (g1 b.val) / 16 + g2 (g1 b.val)) % 16 = Lib.popAux 8 b.val ∧ Lib.popAux 8 b.val ≤ 8 := by decide +kernel
theorem d4 : ∀ a : Fin 256, (a.val &&& 15) = a.val % 16 := by decide +kernel
theorem f1_succ (n b h : Nat) (hb : b < 256) : f1 (n + 1) (b + 256 * h) = g1 b + 256 * f1 n h := by
  unfold f1 g1
  have e : (b + 256 * h) / 2 = (b / 2 + 128 * (h % 2)) + 256 * (h / 2) := by omega
  have this : ((b / 2 + 128 * (h % 2)) &&& 85) = (b / 2) &&& 85 := d1 ⟨b, hb⟩ ⟨h % 2, by omega⟩
  rw [e, M, and_byte _ _ _ _ (by omega) (by omega), and_byte _ _ _ _ hb (by omega), this]
  omega
theorem f2_succ (n b h : Nat) (hb : b < 256) : f2 (n + 1) (b + 256 * h) = g2 b + 256 * f2 n h := by
  unfold f2 g2
  have e : (b + 256 * h) / 4 = (b / 4 + 64 * (h % 4)) + 256 * (h / 4) := by omega
  have this : ((b / 4 + 64 * (h % 4)) &&& 51) = (b / 4) &&& 51 := d2 ⟨b, hb⟩ ⟨h % 4, by omega⟩
  rw [e, M, and_byte _ _ _ _ (by omega) (by omega), and_byte _ _ _ _ hb (by omega), this]
  omega
theorem f3_succ (n b h : Nat) (hb : b < 256) (h1 : b / 16 ≤ 4) (h2 : b % 16 ≤ 4) (h3 : h % 16 ≤ 4) : f3 (n + 1) (b + 256 * h) = (b / 16 + b) % 16 + 256 * f3 n h := by
  unfold f3
  have e : (b + 256 * h) / 16 + (b + 256 * h) = (b / 16 + 16 * (h % 16) + b) + 256 * (h / 16 + h) := by omega
  have this : ((b / 16 + 16 * (h % 16) + b) &&& 15) = (b / 16 + 16 * (h % 16) + b) % 16 := d4 ⟨b / 16 + 16 * (h % 16) + b, by omega⟩
  rw [e, M, and_byte _ _ _ _ (by omega) (by omega), this]
  omega
def F (n x : Nat) : Nat := f3 n (f2 n (f1 n x))
theorem low (n x : Nat) : f2 n (f1 n x) % 16 ≤ 4 := by
  cases n with
  | zero => simp [f2, M]
  | succ n =>
    obtain ⟨h1, _, _, h4, _, _⟩ := d3 ⟨x % 256, by omega⟩
    have h4 : g2 (g1 (x % 256)) % 16 ≤ 4 := h4
    rw [show x = x % 256 + 256 * (x / 256) by omega, f1_succ _ _ _ (by omega), f2_succ _ _ _ h1]
    generalize g2 (g1 (x % 256)) = y at *
    omega
theorem F_succ (n x : Nat) : F (n + 1) x = Lib.popAux 8 (x % 256) + 256 * F n (x / 256) := by
  obtain ⟨h1, h2, h3, h4, h5, _⟩ := d3 ⟨x % 256, by omega⟩
  have e : x = x % 256 + 256 * (x / 256) := by omega
  unfold F
  rw [show f1 (n + 1) x = f1 (n + 1) (x % 256 + 256 * (x / 256)) by rw [← e], f1_succ _ _ _ (by omega), f2_succ _ _ _ h1, f3_succ _ _ _ h2 h3 h4 (low _ _), h5]
theorem pop_split (f x : Nat) : Lib.popAux (f + 8) x = Lib.popAux 8 (x % 256) + Lib.popAux f (x / 256) := by
  have e : x / 256 = x / 2 / 2 / 2 / 2 / 2 / 2 / 2 / 2 := by omega
  rw [e]
  simp only [Lib.popAux]
  omega
theorem F_all (x : Nat) : (let y := F 8 x; let a := y + y / 256; let b := a + a / 65536; (b + b / 4294967296) % 128) = Lib.popAux 64 x := by
  have q : ∀ z, Lib.popAux 8 (z % 256) ≤ 8 := fun z => (d3 ⟨z % 256, by omega⟩).2.2.2.2.2
  have e : F 8 x = Lib.popAux 8 (x % 256) + 256 * (Lib.popAux 8 (x / 256 % 256) + 256 * (Lib.popAux 8 (x / 256 / 256 % 256) + 256 * (Lib.popAux 8 (x / 256 / 256 / 256 % 256) + 256 * (Lib.popAux 8 (x / 256 / 256 / 256 / 256 % 256) + 256 * (Lib.popAux 8 (x / 256 / 256 / 256 / 256 / 256 % 256) + 256 * (Lib.popAux 8 (x / 256 / 256 / 256 / 256 / 256 / 256 % 256) + 256 * (Lib.popAux 8 (x / 256 / 256 / 256 / 256 / 256 / 256 / 256 % 256)))))))) := by
    rw [F_succ, F_succ, F_succ, F_succ, F_succ, F_succ, F_succ, F_succ]
    simp [F, f3, M]
  have e2 : Lib.popAux 64 x = Lib.popAux 8 (x % 256) + (Lib.popAux 8 (x / 256 % 256) + (Lib.popAux 8 (x / 256 / 256 % 256) + (Lib.popAux 8 (x / 256 / 256 / 256 % 256) + (Lib.popAux 8 (x / 256 / 256 / 256 / 256 % 256) + (Lib.popAux 8 (x / 256 / 256 / 256 / 256 / 256 % 256) + (Lib.popAux 8 (x / 256 / 256 / 256 / 256 / 256 / 256 % 256) + (Lib.popAux 8 (x / 256 / 256 / 256 / 256 / 256 / 256 / 256 % 256)))))))) := by
    rw [show Lib.popAux 64 x = Lib.popAux 8 (x % 256) + Lib.popAux 56 (x / 256) from pop_split 56 x]
    rw [show Lib.popAux 56 (x / 256) = Lib.popAux 8 (x / 256 % 256) + Lib.popAux 48 (x / 256 / 256) from pop_split 48 (x / 256)]
    rw [show Lib.popAux 48 (x / 256 / 256) = Lib.popAux 8 (x / 256 / 256 % 256) + Lib.popAux 40 (x / 256 / 256 / 256) from pop_split 40 (x / 256 / 256)]
    rw [show Lib.popAux 40 (x / 256 / 256 / 256) = Lib.popAux 8 (x / 256 / 256 / 256 % 256) + Lib.popAux 32 (x / 256 / 256 / 256 / 256) from pop_split 32 (x / 256 / 256 / 256)]
    rw [show Lib.popAux 32 (x / 256 / 256 / 256 / 256) = Lib.popAux 8 (x / 256 / 256 / 256 / 256 % 256) + Lib.popAux 24 (x / 256 / 256 / 256 / 256 / 256) from pop_split 24 (x / 256 / 256 / 256 / 256)]
    rw [show Lib.popAux 24 (x / 256 / 256 / 256 / 256 / 256) = Lib.popAux 8 (x / 256 / 256 / 256 / 256 / 256 % 256) + Lib.popAux 16 (x / 256 / 256 / 256 / 256 / 256 / 256) from pop_split 16 (x / 256 / 256 / 256 / 256 / 256)]
    rw [show Lib.popAux 16 (x / 256 / 256 / 256 / 256 / 256 / 256) = Lib.popAux 8 (x / 256 / 256 / 256 / 256 / 256 / 256 % 256) + Lib.popAux 8 (x / 256 / 256 / 256 / 256 / 256 / 256 / 256) from pop_split 8 (x / 256 / 256 / 256 / 256 / 256 / 256)]
    rw [show Lib.popAux 8 (x / 256 / 256 / 256 / 256 / 256 / 256 / 256) = Lib.popAux 8 (x / 256 / 256 / 256 / 256 / 256 / 256 / 256 % 256) + Lib.popAux 0 (x / 256 / 256 / 256 / 256 / 256 / 256 / 256 / 256) from pop_split 0 (x / 256 / 256 / 256 / 256 / 256 / 256 / 256)]
    rfl
  have h0 := q x; have h1 := q (x / 256); have h2 := q (x / 256 / 256); have h3 := q (x / 256 / 256 / 256); have h4 := q (x / 256 / 256 / 256 / 256); have h5 := q (x / 256 / 256 / 256 / 256 / 256); have h6 := q (x / 256 / 256 / 256 / 256 / 256 / 256); have h7 := q (x / 256 / 256 / 256 / 256 / 256 / 256 / 256)
  rw [e2, e]
  generalize Lib.popAux 8 (x % 256) = p0 at *
  generalize Lib.popAux 8 (x / 256 % 256) = p1 at *
  generalize Lib.popAux 8 (x / 256 / 256 % 256) = p2 at *
  generalize Lib.popAux 8 (x / 256 / 256 / 256 % 256) = p3 at *
  generalize Lib.popAux 8 (x / 256 / 256 / 256 / 256 % 256) = p4 at *
  generalize Lib.popAux 8 (x / 256 / 256 / 256 / 256 / 256 % 256) = p5 at *
  generalize Lib.popAux 8 (x / 256 / 256 / 256 / 256 / 256 / 256 % 256) = p6 at *
  generalize Lib.popAux 8 (x / 256 / 256 / 256 / 256 / 256 / 256 / 256 % 256) = p7 at *
  clear e e2 q
  dsimp only
  obtain ⟨A0, hA0⟩ : ∃ A, A = (p0 + p1) + 256 * (p1 + p2) := ⟨_, rfl⟩
  obtain ⟨B1, hB1⟩ : ∃ A, A = (p2 + p3) + 256 * (p3 + p4) := ⟨_, rfl⟩
  obtain ⟨B2, hB2⟩ : ∃ A, A = (p4 + p5) + 256 * (p5 + p6) := ⟨_, rfl⟩
  obtain ⟨A3, hA3⟩ : ∃ A, A = (p6 + p7) + 256 * p7 := ⟨_, rfl⟩
  have k1 : p0 + 256 * (p1 + 256 * (p2 + 256 * (p3 + 256 * (p4 + 256 * (p5 + 256 * (p6 + 256 * p7)))))) + (p0 + 256 * (p1 + 256 * (p2 + 256 * (p3 + 256 * (p4 + 256 * (p5 + 256 * (p6 + 256 * p7))))))) / 256 = A0 + 65536 * (B1 + 65536 * (B2 + 65536 * A3)) := by
    generalize hz : p1 + 256 * (p2 + 256 * (p3 + 256 * (p4 + 256 * (p5 + 256 * (p6 + 256 * p7))))) = z
    have : (p0 + 256 * z) / 256 = z := by omega
    rw [this]; omega
  rw [k1]
  have k2 : (A0 + 65536 * (B1 + 65536 * (B2 + 65536 * A3))) / 65536 = B1 + 65536 * (B2 + 65536 * A3) := by
    generalize B1 + 65536 * (B2 + 65536 * A3) = z
    omega
  rw [k2]
  have k3 : A0 + 65536 * (B1 + 65536 * (B2 + 65536 * A3)) + (B1 + 65536 * (B2 + 65536 * A3)) = (A0 + B1 + 65536 * (B1 + B2)) + 4294967296 * (B2 + 65536 * A3 + A3) := by omega
  rw [k3]
  have k4 : (A0 + B1 + 65536 * (B1 + B2) + 4294967296 * (B2 + 65536 * A3 + A3)) / 4294967296 = B2 + 65536 * A3 + A3 := by
    generalize B2 + 65536 * A3 + A3 = z
    omega
  rw [k4]
  omega
end Pop
end Go.Proofs.YteglnekgnbjkoaaDoor
