import PyProof.Rows.All
import Wide.All
import OpenK.AllK
import Wide.FinOn
import PySem.Challenge.RW_nn0190_01
open PySem PySem.W PyProof.Rows
set_option Elab.async false
namespace Mine
def lenB : List Int := [3, 4, 5, 6, 7, 8, 9, 10, 11, 13, 15, 17, 19, 23, 27, 31, 35, 43, 51, 59, 67, 83, 99, 115, 131, 163, 195, 227]
def lenE : List Int := [0, 0, 0, 0, 0, 0, 0, 0, 1, 1, 1, 1, 2, 2, 2, 2, 3, 3, 3, 3, 4, 4, 4, 4, 5, 5, 5, 5]
def lenN : List Int := lenB ++ [259]
def lenBB : List Int := lenB ++ [258]
def lenEE : List Int := lenE ++ [0]
def disB : List Int := [1, 2, 3, 4, 5, 7, 9, 13, 17, 25, 33, 49, 65, 97, 129, 193, 257, 385, 513, 769, 1025, 1537, 2049, 3073, 4097, 6145, 8193, 12289, 16385, 24577]
def disE : List Int := [0, 0, 0, 0, 1, 1, 2, 2, 3, 3, 4, 4, 5, 5, 6, 6, 7, 7, 8, 8, 9, 9, 10, 10, 11, 11, 12, 12, 13, 13]
def disN : List Int := disB ++ [32769]

theorem len_step : ∀ n < 28, (lenB.take n ++ [lenN.getD n 0] = lenB.take (n + 1) ∧
    lenE.take n ++ [if 0 > Int.fdiv (n : Int) 4 - 1 then 0 else Int.fdiv (n : Int) 4 - 1] = lenE.take (n + 1) ∧
    lenN.getD n 0 + 1 * 2 ^ (if 0 > Int.fdiv (n : Int) 4 - 1 then 0 else Int.fdiv (n : Int) 4 - 1).toNat = lenN.getD (n + 1) 0) := by decide +kernel
theorem dis_step : ∀ n < 30, (disB.take n ++ [disN.getD n 0] = disB.take (n + 1) ∧
    disE.take n ++ [if 0 > Int.fdiv (n : Int) 2 - 1 then 0 else Int.fdiv (n : Int) 2 - 1] = disE.take (n + 1) ∧
    disN.getD n 0 + 1 * 2 ^ (if 0 > Int.fdiv (n : Int) 2 - 1 then 0 else Int.fdiv (n : Int) 2 - 1).toNat = disN.getD (n + 1) 0) := by decide +kernel

theorem len_turn {n : Nat} {k b : Int} {bs es pre : List Int} (hp : pre.length = n) (hk : k = 0 + (n : Int)) (hl : n < 28) (h1 : bs = lenB.take n) (h2 : bs.length = n) (h3 : es = lenE.take n) (h4 : es.length = n) (h5 : b = lenN.getD n 0) :
    bs ++ [b] = lenB.take (pre ++ [k]).length ∧ (bs ++ [b]).length = (pre ++ [k]).length ∧
    es ++ [if 0 > k.fdiv 4 - 1 then 0 else k.fdiv 4 - 1] = lenE.take (pre ++ [k]).length ∧ (es ++ [if 0 > k.fdiv 4 - 1 then 0 else k.fdiv 4 - 1]).length = (pre ++ [k]).length ∧
    b + 1 * 2 ^ (if 0 > k.fdiv 4 - 1 then 0 else k.fdiv 4 - 1).toNat = lenN.getD (pre ++ [k]).length 0 := by
  have e : k = (n : Int) := by omega
  have e2 : (pre ++ [k]).length = n + 1 := by rw [List.length_append, hp]; rfl
  obtain ⟨s1, s2, s3⟩ := len_step n hl
  rw [e2, e]
  refine ⟨by rw [h1, h5]; exact s1, by rw [List.length_append, h2]; rfl, by rw [h3]; exact s2, by rw [List.length_append, h4]; rfl, by rw [h5]; exact s3⟩
theorem dis_turn {n : Nat} {k b : Int} {bs es pre : List Int} (hp : pre.length = n) (hk : k = 0 + (n : Int)) (hl : n < 30) (h1 : bs = disB.take n) (h2 : bs.length = n) (h3 : es = disE.take n) (h4 : es.length = n) (h5 : b = disN.getD n 0) :
    bs ++ [b] = disB.take (pre ++ [k]).length ∧ (bs ++ [b]).length = (pre ++ [k]).length ∧
    es ++ [if 0 > k.fdiv 2 - 1 then 0 else k.fdiv 2 - 1] = disE.take (pre ++ [k]).length ∧ (es ++ [if 0 > k.fdiv 2 - 1 then 0 else k.fdiv 2 - 1]).length = (pre ++ [k]).length ∧
    b + 1 * 2 ^ (if 0 > k.fdiv 2 - 1 then 0 else k.fdiv 2 - 1).toNat = disN.getD (pre ++ [k]).length 0 := by
  have e : k = (n : Int) := by omega
  have e2 : (pre ++ [k]).length = n + 1 := by rw [List.length_append, hp]; rfl
  obtain ⟨s1, s2, s3⟩ := dis_step n hl
  rw [e2, e]
  refine ⟨by rw [h1, h5]; exact s1, by rw [List.length_append, h2]; rfl, by rw [h3]; exact s2, by rw [List.length_append, h4]; rfl, by rw [h5]; exact s3⟩

theorem spot_start {bs es : List Int} (h1 : bs = lenB.take (rangeKs 0 ((28 : Int) - 0).toNat).length) (h3 : es = lenE.take (rangeKs 0 ((28 : Int) - 0).toNat).length) :
    bs ++ [258] = lenBB ∧ es ++ [0] = lenEE ∧ (bs ++ [258]).length = 29 ∧ (es ++ [0]).length = 29 ∧ (0 : Int) ≤ 0 ∧ (0 : Int) ≤ 28 ∧ lenBB.getD (0 : Int).toNat 0 ≤ 3 + (([] : List Int).length : Int) := by
  rw [rangeKs_length] at h1 h3
  subst h1
  subst h3
  refine ⟨rfl, rfl, rfl, rfl, by omega, by omega, by decide⟩
theorem spot_enter {k n : Int} {m : Nat} (h0 : 0 ≤ k) (h1 : k ≤ 28) (h2 : lenBB.getD k.toNat 0 ≤ 3 + (m : Int)) (hn : n = 3 + (m : Int)) : 0 ≤ k ∧ k ≤ 28 ∧ lenBB.getD k.toNat 0 ≤ n := ⟨h0, h1, hn ▸ h2⟩
theorem spot_turn {bs : List Int} {k n : Int} (h3 : bs = lenBB) (h0 : 0 ≤ k) (h2 : bs.length = 29) (h1 : k + 1 < (bs.length : Int)) (h4 : bs.getD (k + 1).toNat 0 ≤ n) : 0 ≤ k + 1 ∧ k + 1 ≤ 28 ∧ lenBB.getD (k + 1).toNat 0 ≤ n := by
  subst h3
  exact ⟨by omega, by omega, h4⟩
theorem lenBB_le : ∀ i < 29, lenBB.getD i 0 ≤ 258 := by decide +kernel
theorem not258 {bs : List Int} {k n : Int} (h3 : bs = lenBB) (h0 : 0 ≤ k) (h2 : bs.length = 29) (h1 : k + 1 < (bs.length : Int)) (h4 : ¬ bs.getD (k + 1).toNat 0 ≤ n) : ¬ ((n == 258) = true) := by
  subst h3
  have := lenBB_le (k + 1).toNat (by omega)
  simp only [beq_iff_eq]
  omega
theorem is258 {bs : List Int} {k n : Int} {m : Nat} (h0 : 0 ≤ k) (h28 : k ≤ 28) (h2 : bs.length = 29) (h1 : ¬ k + 1 < (bs.length : Int)) (h4 : lenBB.getD k.toNat 0 ≤ n) (hn : n = 3 + (m : Int)) (hm : m < ((259 : Int) - 3).toNat) : (n == 258) = true := by
  have e : k = 28 := by omega
  subst e
  have : lenBB.getD (28 : Int).toNat 0 = 258 := by decide
  simp only [beq_iff_eq]
  omega
theorem spot_less {bs : List Int} {k : Int} (h1 : k + 1 < (bs.length : Int)) (h2 : bs.length = 29) : (28 - (k + 1)).toNat < (28 - k).toNat := by omega
theorem bits_enter {n : Int} {m : Nat} (hn : n = 3 + (m : Int)) (hm : m < ((259 : Int) - 3).toNat) :
    0 ≤ n - 3 ∧ n - 3 < 32768 ∧ (2 : Int) ≤ 4 ∧ (4 : Int) ≤ 4 ∧ (0 : Int) ≤ 0 ∧ (0 : Int) ≤ 14 ∧ ((0 : Int) < 0 → 2 * 4 ≤ (n - 3).fdiv (2 ^ ((0 : Int) - 1).toNat)) :=
  ⟨by omega, by omega, by omega, by omega, by omega, by omega, fun h => absurd h (by omega)⟩
theorem bits_fall {n sm b : Int} (h0 : 0 ≤ n) (h1 : n < 32768) (h2 : 2 ≤ sm) (hb0 : 0 ≤ b) (hb : b ≤ 14) (h : 2 * sm ≤ n.fdiv (2 ^ b.toNat)) : b < 14 := by
  rcases Int.lt_or_eq_of_le hb with q | q
  · exact q
  · exfalso
    subst q
    have e : n.fdiv (2 ^ (14 : Int).toNat) = n / 16384 := by
      rw [show (2 : Int) ^ (14 : Int).toNat = 16384 by decide, Int.fdiv_eq_ediv_of_nonneg _ (by decide)]
    rw [e] at h
    omega
theorem bits_turn {n sm b : Int} (h0 : 0 ≤ n) (h1 : n < 32768) (h2 : 2 ≤ sm) (h3 : sm ≤ 4) (hb0 : 0 ≤ b) (hb : b ≤ 14) (h : 2 * sm ≤ n.fdiv (2 ^ b.toNat)) :
    0 ≤ n ∧ n < 32768 ∧ 2 ≤ sm ∧ sm ≤ 4 ∧ 0 ≤ b + 1 ∧ b + 1 ≤ 14 ∧ (0 < b + 1 → 2 * sm ≤ n.fdiv (2 ^ (b + 1 - 1).toNat)) := by
  have := bits_fall h0 h1 h2 hb0 hb h
  refine ⟨h0, h1, h2, h3, by omega, by omega, fun _ => ?_⟩
  rw [show b + 1 - 1 = b by omega]
  exact h
theorem bits_less {n sm b : Int} (h : 2 * sm ≤ n.fdiv (2 ^ b.toNat)) (h0 : 0 ≤ n) (h1 : n < 32768) (h2 : 2 ≤ sm) (hb0 : 0 ≤ b) (hb : b ≤ 14) : (14 - (b + 1)).toNat < (14 - b).toNat := by
  have := bits_fall h0 h1 h2 hb0 hb h
  omega

theorem two_pos (k : Nat) : (0 : Int) < 2 ^ k := kbt_pos k
theorem two_add (a b : Nat) : (2 : Int) ^ (a + b) = 2 ^ a * 2 ^ b := Int.pow_add 2 a b
theorem fdiv2 (n : Int) (k : Nat) : n.fdiv (2 ^ k) = n / 2 ^ k := Int.fdiv_eq_ediv_of_nonneg _ (Int.le_of_lt (two_pos k))

theorem split_core {sm n b q : Int} {e : Nat} (hs : 0 < sm) (hb : 0 ≤ b) (h1 : ¬ 2 * sm ≤ n.fdiv (2 ^ b.toNat)) (h2 : 0 < b → 2 * sm ≤ n.fdiv (2 ^ (b - 1).toNat))
    (hq1 : q * 2 ^ e ≤ n) (hq2 : n < (q + 1) * 2 ^ e) (hq3 : q < 2 * sm) (hq4 : 0 < e → sm ≤ q) :
    b = (e : Int) ∧ n.fdiv (2 ^ b.toNat) = q ∧ Builtin.bitAnd n (1 * 2 ^ b.toNat - 1) = n - q * 2 ^ e := by
  have hbe : b.toNat = e := by
    rcases Nat.lt_trichotomy b.toNat e with h | h | h
    · exfalso
      apply h1
      rw [fdiv2]
      apply Int.le_ediv_of_mul_le (two_pos _)
      obtain ⟨d, rfl⟩ : ∃ d, e = d + 1 + b.toNat := ⟨e - 1 - b.toNat, by omega⟩
      have hsq := hq4 (by omega)
      rw [two_add, two_add, Int.pow_one] at hq1
      have hp := two_pos b.toNat
      have hd := two_pos d
      have hqq : 2 * sm * 2 ^ b.toNat ≤ q * (2 ^ d * 2 * 2 ^ b.toNat) := by
        have e1 : q * (2 ^ d * 2 * 2 ^ b.toNat) = (q * 2 ^ d * 2) * 2 ^ b.toNat := by
          simp only [Int.mul_assoc]
        rw [e1]
        apply Int.mul_le_mul_of_nonneg_right _ (Int.le_of_lt hp)
        have e2 : sm * 1 ≤ q * 2 ^ d := Int.mul_le_mul hsq (by omega) (by decide) (by omega)
        omega
      omega
    · exact h
    · exfalso
      have hb0 : 0 < b := by omega
      have h3 := h2 hb0
      rw [fdiv2] at h3
      have hx : (b - 1).toNat = (b.toNat - 1 - e) + e := by omega
      rw [hx] at h3
      have h4 := Int.mul_le_of_le_ediv (two_pos _) h3
      rw [two_add] at h4
      have hp := two_pos e
      have hd := two_pos (b.toNat - 1 - e)
      have h5 : 2 * sm * 2 ^ e ≤ 2 * sm * (2 ^ (b.toNat - 1 - e) * 2 ^ e) := by
        apply Int.mul_le_mul_of_nonneg_left _ (by omega)
        have : 1 * 2 ^ e ≤ 2 ^ (b.toNat - 1 - e) * (2 : Int) ^ e := Int.mul_le_mul_of_nonneg_right (by omega) (Int.le_of_lt hp)
        omega
      have h6 : (q + 1) * 2 ^ e ≤ 2 * sm * 2 ^ e := Int.mul_le_mul_of_nonneg_right (by omega) (Int.le_of_lt hp)
      omega
  have hp := two_pos e
  have hu := kbt_unique (a := n) (b := 2 ^ e) (q := q) (r := n - q * 2 ^ e) hp (by rw [Int.mul_comm]; omega) (by omega) (by rw [Int.add_mul] at hq2; omega)
  refine ⟨by omega, by rw [hbe, fdiv2]; exact hu.1, ?_⟩
  rw [hbe, Int.one_mul, kbt_mask]
  exact hu.2

/-- the tables: at the place i, with e extra bits, the base is the offset and (i - small * e) * 2^e, the next base at most one such step on -/
theorem len_tab : ∀ i : Nat, i < 28 → (((i : Int) - 4 * lenEE.getD i 0) * 2 ^ (lenEE.getD i 0).toNat = lenBB.getD i 0 - 3 ∧
    lenBB.getD (i + 1) 0 - 3 ≤ ((i : Int) - 4 * lenEE.getD i 0 + 1) * 2 ^ (lenEE.getD i 0).toNat ∧ (i : Int) - 4 * lenEE.getD i 0 < 8 ∧ (0 < (lenEE.getD i 0).toNat → 4 ≤ (i : Int) - 4 * lenEE.getD i 0) ∧ ((lenEE.getD i 0).toNat : Int) = lenEE.getD i 0) := by decide +kernel
theorem dis_tab : ∀ i : Nat, i < 30 → (((i : Int) - 2 * disE.getD i 0) * 2 ^ (disE.getD i 0).toNat = disN.getD i 0 - 1 ∧
    disN.getD (i + 1) 0 - 1 ≤ ((i : Int) - 2 * disE.getD i 0 + 1) * 2 ^ (disE.getD i 0).toNat ∧ (i : Int) - 2 * disE.getD i 0 < 4 ∧ (0 < (disE.getD i 0).toNat → 2 ≤ (i : Int) - 2 * disE.getD i 0) ∧ ((disE.getD i 0).toNat : Int) = disE.getD i 0) := by decide +kernel

theorem len_facts {bs es : List Int} {n k : Int} (hb : bs = lenBB) (he : es = lenEE) (h0 : 0 ≤ k) (hlen : bs.length = 29) (h1 : k + 1 < (bs.length : Int)) (hlo : lenBB.getD k.toNat 0 ≤ n) (hhi : ¬ bs.getD (k + 1).toNat 0 ≤ n) :
    ∃ e : Nat, es.getD k.toNat 0 = (e : Int) ∧ (k - 4 * e) * 2 ^ e = bs.getD k.toNat 0 - 3 ∧ (k - 4 * e) * 2 ^ e ≤ n - 3 ∧ n - 3 < (k - 4 * e + 1) * 2 ^ e ∧ k - 4 * e < 8 ∧ (0 < e → 4 ≤ k - 4 * e) := by
  subst hb
  subst he
  obtain ⟨i, rfl⟩ : ∃ i : Nat, k = (i : Int) := ⟨k.toNat, by omega⟩
  have hi : i < 28 := by omega
  obtain ⟨t1, t2, t3, t4, t5⟩ := len_tab i hi
  have e1 : ((i : Int)).toNat = i := by omega
  have e2 : ((i : Int) + 1).toNat = i + 1 := by omega
  rw [e1] at hlo ⊢
  rw [e2] at hhi
  refine ⟨(lenEE.getD i 0).toNat, t5.symm, ?_, ?_, ?_, ?_, ?_⟩
  · rw [t5]; exact t1
  · rw [t5, t1]; omega
  · rw [t5]; omega
  · rw [t5]; exact t3
  · rw [t5]; exact t4
theorem len_same {bs es : List Int} {n k b : Int} (hb : bs = lenBB) (he : es = lenEE) (h0 : 0 ≤ k) (hlen : bs.length = 29) (h1 : k + 1 < (bs.length : Int)) (hlo : lenBB.getD k.toNat 0 ≤ n) (hhi : ¬ bs.getD (k + 1).toNat 0 ≤ n)
    (hb0 : 0 ≤ b) (hx : ¬ 2 * 4 ≤ (n - 3).fdiv (2 ^ b.toNat)) (hy : 0 < b → 2 * 4 ≤ (n - 3).fdiv (2 ^ (b - 1).toNat)) :
    (257 + (4 * b + (n - 3).fdiv (2 ^ b.toNat)) == 257 + k && (b == es.getD k.toNat 0 && Builtin.bitAnd (n - 3) (1 * 2 ^ b.toNat - 1) == n - bs.getD k.toNat 0)) = true := by
  obtain ⟨e, f1, f2, f3, f4, f5, f6⟩ := len_facts hb he h0 hlen h1 hlo hhi
  obtain ⟨g1, g2, g3⟩ := split_core (sm := 4) (by decide) hb0 hx hy f3 f4 (by omega) f6
  rw [g2, g3, f1, f2, ← g1]
  rw [Bool.and_eq_true, Bool.and_eq_true, beq_iff_eq, beq_iff_eq, beq_iff_eq]
  exact ⟨by omega, rfl, by omega⟩
theorem not_not_b {c : Bool} (h : c = true) : ¬ ((!c) = true) := by rw [h]; decide
theorem len_below {bs es : List Int} {n k : Int} (hb : bs = lenBB) (he : es = lenEE) (h0 : 0 ≤ k) (hlen : bs.length = 29) (h1 : k + 1 < (bs.length : Int)) (hlo : lenBB.getD k.toNat 0 ≤ n) (hhi : ¬ bs.getD (k + 1).toNat 0 ≤ n) :
    ¬ (decide (2 ^ (es.getD k.toNat 0).toNat ≤ n - bs.getD k.toNat 0) = true) := by
  obtain ⟨e, f1, f2, f3, f4, f5, f6⟩ := len_facts hb he h0 hlen h1 hlo hhi
  rw [f1, decide_eq_true_eq, Int.toNat_natCast]
  rw [Int.add_mul] at f4
  omega
theorem last_k {bs : List Int} {k : Int} (h28 : k ≤ 28) (hlen : bs.length = 29) (h1 : ¬ k + 1 < (bs.length : Int)) : k = 28 := by omega
theorem last_n {bs : List Int} {n k : Int} {m : Nat} (h28 : k ≤ 28) (hlen : bs.length = 29) (h1 : ¬ k + 1 < (bs.length : Int)) (hlo : lenBB.getD k.toNat 0 ≤ n) (hn : n = 3 + (m : Int)) (hm : m < ((259 : Int) - 3).toNat) : n = 258 := by
  have e := last_k h28 hlen h1
  subst e
  have : lenBB.getD (28 : Int).toNat 0 = 258 := by decide
  omega
theorem len_same_last {bs es : List Int} {n k : Int} {m : Nat} (hb : bs = lenBB) (he : es = lenEE) (h28 : k ≤ 28) (hlen : bs.length = 29) (h1 : ¬ k + 1 < (bs.length : Int)) (hlo : lenBB.getD k.toNat 0 ≤ n) (hn : n = 3 + (m : Int)) (hm : m < ((259 : Int) - 3).toNat) :
    ((285 : Int) == 257 + k && ((0 : Int) == es.getD k.toNat 0 && (0 : Int) == n - bs.getD k.toNat 0)) = true := by
  have e1 := last_n h28 hlen h1 hlo hn hm
  have e := last_k h28 hlen h1
  subst e hb he
  rw [e1]
  decide
theorem len_below_last {bs es : List Int} {n k : Int} {m : Nat} (hb : bs = lenBB) (he : es = lenEE) (h28 : k ≤ 28) (hlen : bs.length = 29) (h1 : ¬ k + 1 < (bs.length : Int)) (hlo : lenBB.getD k.toNat 0 ≤ n) (hn : n = 3 + (m : Int)) (hm : m < ((259 : Int) - 3).toNat) :
    ¬ (decide (2 ^ (es.getD k.toNat 0).toNat ≤ n - bs.getD k.toNat 0) = true) := by
  have e1 := last_n h28 hlen h1 hlo hn hm
  have e := last_k h28 hlen h1
  subst e hb he
  rw [e1]
  decide

theorem ee_in {es : List Int} (he : es = lenEE) (k : Nat) : 0 ≤ es.getD k 0 ∧ es.getD k 0 ≤ 1000000 := by
  subst he
  by_cases h : k < 29
  · exact (by decide +kernel : ∀ k < 29, 0 ≤ lenEE.getD k 0 ∧ lenEE.getD k 0 ≤ 1000000) k h
  · rw [List.getD_eq_getElem?_getD, List.getElem?_eq_none (by show 29 ≤ k; omega)]; decide
theorem de_in {es : List Int} (he : es = disE) (k : Nat) : 0 ≤ es.getD k 0 ∧ es.getD k 0 ≤ 1000000 := by
  subst he
  by_cases h : k < 30
  · exact (by decide +kernel : ∀ k < 30, 0 ≤ disE.getD k 0 ∧ disE.getD k 0 ≤ 1000000) k h
  · rw [List.getD_eq_getElem?_getD, List.getElem?_eq_none (by show 30 ≤ k; omega)]; decide

theorem dis_start {bs es : List Int} (h1 : bs = disB.take (rangeKs 0 ((30 : Int) - 0).toNat).length) (h3 : es = disE.take (rangeKs 0 ((30 : Int) - 0).toNat).length) :
    bs = disB ∧ bs.length = 30 ∧ es = disE ∧ es.length = 30 := by
  rw [rangeKs_length] at h1 h3
  subst h1
  subst h3
  exact ⟨rfl, rfl, rfl, rfl⟩
theorem numbers_in {bs ns : List Int} {n : Int} (h : n ∈ List.map (fun k' => k'.fmod 32768 + 1) (List.take 63 ns) ++ bs ++ List.map (fun k' => k' - 1) (List.drop 1 bs) ++ [32768])
    (h1 : bs = disB.take (rangeKs 0 ((30 : Int) - 0).toNat).length) : 1 ≤ n ∧ n ≤ 32768 := by
  rw [rangeKs_length] at h1
  have e : bs = disB := by rw [h1]; rfl
  subst e
  rw [List.mem_append, List.mem_append, List.mem_append] at h
  rcases h with ((h | h) | h) | h
  · obtain ⟨k, _, rfl⟩ := List.mem_map.mp h
    have := fmod_lo k (n := 32768) (by decide)
    have := fmod_hi k (n := 32768) (by decide)
    omega
  · exact (by decide +kernel : ∀ x ∈ disB, 1 ≤ x ∧ x ≤ 32768) n h
  · exact (by decide +kernel : ∀ x ∈ List.map (fun k' => k' - 1) (List.drop 1 disB), 1 ≤ x ∧ x ≤ 32768) n h
  · rw [List.mem_singleton.mp h]; decide
theorem told_enter {bs ns : List Int} {n : Int} (h : n ∈ List.map (fun k' => k'.fmod 32768 + 1) (List.take 63 ns) ++ bs ++ List.map (fun k' => k' - 1) (List.drop 1 bs) ++ [32768])
    (h1 : bs = disB.take (rangeKs 0 ((30 : Int) - 0).toNat).length) : (0 : Int) ≤ 0 ∧ (0 : Int) ≤ 29 ∧ disN.getD (0 : Int).toNat 0 ≤ n :=
  ⟨by decide, by decide, by have := numbers_in h h1; show (1 : Int) ≤ n; omega⟩
theorem told_turn {bs : List Int} {k n : Int} (h3 : bs = disB) (h0 : 0 ≤ k) (h2 : bs.length = 30) (h1 : k + 1 < (bs.length : Int)) (h4 : bs.getD (k + 1).toNat 0 ≤ n) : 0 ≤ k + 1 ∧ k + 1 ≤ 29 ∧ disN.getD (k + 1).toNat 0 ≤ n := by
  subst h3
  refine ⟨by omega, by omega, ?_⟩
  obtain ⟨i, hi⟩ : ∃ i : Nat, (k + 1).toNat = i := ⟨_, rfl⟩
  rw [hi] at h4 ⊢
  have e := (by decide +kernel : ∀ i < 30, disN.getD i 0 = disB.getD i 0) i (by omega)
  omega
theorem told_less {bs : List Int} {k : Int} (h1 : k + 1 < (bs.length : Int)) (h2 : bs.length = 30) : (29 - (k + 1)).toNat < (29 - k).toNat := by omega
theorem dbits_enter {bs ns : List Int} {n : Int} (h : n ∈ List.map (fun k' => k'.fmod 32768 + 1) (List.take 63 ns) ++ bs ++ List.map (fun k' => k' - 1) (List.drop 1 bs) ++ [32768])
    (h1 : bs = disB.take (rangeKs 0 ((30 : Int) - 0).toNat).length) :
    0 ≤ n - 1 ∧ n - 1 < 32768 ∧ (2 : Int) ≤ 2 ∧ (2 : Int) ≤ 4 ∧ (0 : Int) ≤ 0 ∧ (0 : Int) ≤ 14 ∧ ((0 : Int) < 0 → 2 * 2 ≤ (n - 1).fdiv (2 ^ ((0 : Int) - 1).toNat)) := by
  have := numbers_in h h1
  exact ⟨by omega, by omega, by omega, by omega, by omega, by omega, fun h => absurd h (by omega)⟩

theorem dis_facts {bs es : List Int} {n k : Int} (hb : bs = disB) (he : es = disE) (h0 : 0 ≤ k) (h29 : k ≤ 29) (hlo : disN.getD k.toNat 0 ≤ n) (hhi : n < disN.getD (k + 1).toNat 0) :
    ∃ e : Nat, es.getD k.toNat 0 = (e : Int) ∧ (k - 2 * e) * 2 ^ e = bs.getD k.toNat 0 - 1 ∧ (k - 2 * e) * 2 ^ e ≤ n - 1 ∧ n - 1 < (k - 2 * e + 1) * 2 ^ e ∧ k - 2 * e < 4 ∧ (0 < e → 2 ≤ k - 2 * e) := by
  subst hb
  subst he
  obtain ⟨i, rfl⟩ : ∃ i : Nat, k = (i : Int) := ⟨k.toNat, by omega⟩
  have hi : i < 30 := by omega
  obtain ⟨t1, t2, t3, t4, t5⟩ := dis_tab i hi
  have e0 := (by decide +kernel : ∀ i < 30, disN.getD i 0 = disB.getD i 0) i hi
  have e1 : ((i : Int)).toNat = i := by omega
  have e2 : ((i : Int) + 1).toNat = i + 1 := by omega
  rw [e1] at hlo ⊢
  rw [e2] at hhi
  refine ⟨(disE.getD i 0).toNat, t5.symm, ?_, ?_, ?_, ?_, ?_⟩
  · rw [t5, t1, e0]
  · rw [t5, t1]; omega
  · rw [t5]; omega
  · rw [t5]; exact t3
  · rw [t5]; exact t4
theorem dis_next {bs : List Int} {n k : Int} (h1 : k + 1 < (bs.length : Int)) (hhi : ¬ bs.getD (k + 1).toNat 0 ≤ n) (hb : bs = disB) (hlen : bs.length = 30) (h0 : 0 ≤ k) : n < disN.getD (k + 1).toNat 0 := by
  subst hb
  obtain ⟨i, hi⟩ : ∃ i : Nat, (k + 1).toNat = i := ⟨_, rfl⟩
  rw [hi] at hhi ⊢
  have e := (by decide +kernel : ∀ i < 30, disN.getD i 0 = disB.getD i 0) i (by omega)
  omega
theorem dis_last {bs cs ns : List Int} {n k : Int} (h1 : ¬ k + 1 < (bs.length : Int)) (h29 : k ≤ 29) (hlen : bs.length = 30)
    (h : n ∈ List.map (fun k' => k'.fmod 32768 + 1) (List.take 63 ns) ++ cs ++ List.map (fun k' => k' - 1) (List.drop 1 cs) ++ [32768])
    (hc : cs = disB.take (rangeKs 0 ((30 : Int) - 0).toNat).length) : n < disN.getD (k + 1).toNat 0 := by
  have := numbers_in h hc
  have e : k = 29 := by omega
  subst e
  show n < 32769
  omega
theorem dis_same {bs es : List Int} {n k b : Int} (hb : bs = disB) (he : es = disE) (h0 : 0 ≤ k) (h29 : k ≤ 29) (hlo : disN.getD k.toNat 0 ≤ n) (hhi : n < disN.getD (k + 1).toNat 0)
    (hb0 : 0 ≤ b) (hx : ¬ 2 * 2 ≤ (n - 1).fdiv (2 ^ b.toNat)) (hy : 0 < b → 2 * 2 ≤ (n - 1).fdiv (2 ^ (b - 1).toNat)) :
    (2 * b + (n - 1).fdiv (2 ^ b.toNat) == 0 + k && (b == es.getD k.toNat 0 && Builtin.bitAnd (n - 1) (1 * 2 ^ b.toNat - 1) == n - bs.getD k.toNat 0)) = true := by
  obtain ⟨e, f1, f2, f3, f4, f5, f6⟩ := dis_facts hb he h0 h29 hlo hhi
  obtain ⟨g1, g2, g3⟩ := split_core (sm := 2) (by decide) hb0 hx hy f3 f4 (by omega) f6
  rw [g2, g3, f1, f2, ← g1]
  rw [Bool.and_eq_true, Bool.and_eq_true, beq_iff_eq, beq_iff_eq, beq_iff_eq]
  exact ⟨by omega, rfl, by omega⟩
theorem dis_below {bs es : List Int} {n k : Int} (hb : bs = disB) (he : es = disE) (h0 : 0 ≤ k) (h29 : k ≤ 29) (hlo : disN.getD k.toNat 0 ≤ n) (hhi : n < disN.getD (k + 1).toNat 0) :
    ¬ (decide (2 ^ (es.getD k.toNat 0).toNat ≤ n - bs.getD k.toNat 0) = true) := by
  obtain ⟨e, f1, f2, f3, f4, f5, f6⟩ := dis_facts hb he h0 h29 hlo hhi
  rw [f1, decide_eq_true_eq, Int.toNat_natCast]
  rw [Int.add_mul] at f4
  omega

/-- of what the call has made, what is still asked for -/
theorem keep7 {h₀ h : Heap} {L : Addr} {a b c d e f g : Addr × Obj} (N : News h₀ L h [a, b, c, d, e, f, g]) : News h₀ L h [b, d] :=
  kst_newsOf N fun p hp => by
    simp only [List.mem_cons, List.not_mem_nil, or_false] at hp ⊢
    rcases hp with rfl | rfl
    · exact Or.inr (Or.inl rfl)
    · exact Or.inr (Or.inr (Or.inr (Or.inl rfl)))
theorem keepN {h₀ h : Heap} {L : Addr} {a b c d e f g i j k l m n : Addr × Obj} (N : News h₀ L h [a, b, c, d, e, f, g, i, j, k, l, m, n]) : News h₀ L h [a, k, l] :=
  kst_newsOf N fun p hp => by
    simp only [List.mem_cons, List.not_mem_nil, or_false] at hp ⊢
    rcases hp with rfl | rfl | rfl
    · exact Or.inl rfl
    · exact Or.inr (Or.inr (Or.inr (Or.inr (Or.inr (Or.inr (Or.inr (Or.inr (Or.inr (Or.inl rfl)))))))))
    · exact Or.inr (Or.inr (Or.inr (Or.inr (Or.inr (Or.inr (Or.inr (Or.inr (Or.inr (Or.inr (Or.inl rfl))))))))))

theorem end_true {bs es : List Int} (hb : bs = disB) (he : es = disE) :
    (((bs.length : Int) == 30) && (bs.getD (-1 + (bs.length : Int)).toNat 0 + 2 ^ (es.getD (-1 + (es.length : Int)).toNat 0).toNat - 1 == 32768)) = true := by
  subst hb he
  decide
end Mine

local macro_rules | `(tactic| walk_at "KswEnd") => `(tactic| (k_dflt ((rename News _ _ _ _ => nE'); (refine ksw_end (_, _) (by assumption) nE' (by exact fun p hp => hp) (by exact trivial) (by kst_all) (by ksw_same) (by kst_p) (by ksw_less)))))
local macro_rules | `(tactic| walk_at "InvEndN") => `(tactic| ((with_reducible show InvEndN _ _ (KstS _ _ _ (Str.ofString "number") _ _ _ _) _ _ _ _); k_dflt ((rename News _ _ _ _ => nE'); (refine kst_end (_, _, _, _, _, _) (by assumption) nE' (by exact List.forall_mem_cons.mpr ⟨.tail _ (.tail _ (.head _)), List.forall_mem_cons.mpr ⟨.tail _ (.tail _ (.tail _ (.head _))), List.forall_mem_cons.mpr ⟨.tail _ (.tail _ (.tail _ (.tail _ (.head _)))), List.forall_mem_nil _⟩⟩⟩) (by exact fun p hp => List.Mem.tail _ (List.Mem.tail _ (List.Mem.tail _ (List.Mem.tail _ (List.Mem.tail _ hp))))) (by rfl) (by kst_facts) (by kst_all) (by kst_same) (by kst_p)))))
local macro_rules | `(tactic| walk_at "compareOp Eq ref ref") => `(tactic| (k_here; (with_reducible show wpAny _ _ (compareOp CmpOp.Eq (Value.ref _) (Value.ref _)) _ _ _); k_dflt (refine eq_dataH (by ke_read) (by ke_read) (by ke_shaped) (by ke_shaped) (by ke_room) ?_); ke_norm; rw [Mine.end_true (by assumption) (by assumption)]))
set_option maxRecDepth 100000 in
set_option maxHeartbeats 0 in
theorem PySem.Challenge.cw_nn0190_01_holds : PySem.Challenge.rw_nn0190_01.Holds := by
  (k_with "pyIter ref" => (with_reducible show wpAny _ _ (pyIter (Value.ref _)) (fun it s₂ => LoopAtV _ _ _ _ (envOf (Str.ofString "length_rows") _ _ _ _) _ _ _ _ it s₂) _ _); k_state (fun pre bases extras base => bases = Mine.lenB.take pre.length ∧ bases.length = pre.length ∧ extras = Mine.lenE.take pre.length ∧ extras.length = pre.length ∧ base = Mine.lenN.getD pre.length 0) "bases" "extras" "base")
  (k_with "pyIter ref" => (with_reducible show wpAny _ _ (pyIter (Value.ref _)) (fun it s₂ => LoopAtV _ _ _ _ (envOf (Str.ofString "distance_rows") _ _ _ _) _ _ _ _ it s₂) _ _); k_state (fun pre bases extras base => bases = Mine.disB.take pre.length ∧ bases.length = pre.length ∧ extras = Mine.disE.take pre.length ∧ extras.length = pre.length ∧ base = Mine.disN.getD pre.length 0) "bases" "extras" "base")
  (k_with "pyIter ref" => (k_of "length" => (rename News _ _ _ _ => nK); (replace nK := Mine.keep7 nK); k_state_given ["bases", "extras"] (fun bases extras pre spot => bases = Mine.lenBB ∧ extras = Mine.lenEE ∧ bases.length = 29 ∧ extras.length = 29 ∧ 0 ≤ spot ∧ spot ≤ 28 ∧ Mine.lenBB.getD spot.toNat 0 ≤ 3 + (pre.length : Int)) "spot"))
  (k_with "pyIter ref" => (k_of "number" => (rename News _ _ _ _ => nK); (replace nK := Mine.keepN nK); k_state (fun _ bases extras => bases = Mine.disB ∧ bases.length = 30 ∧ extras = Mine.disE ∧ extras.length = 30) "bases" "extras"))
  (k_with "exec While BoolOp cons nil" => k_while_given ["bases", "number"] (fun _ number _ spot => 0 ≤ spot ∧ spot ≤ 29 ∧ Mine.disN.getD spot.toNat 0 ≤ number) (fun _ _ _ spot => (29 - spot).toNat) "spot")
  (k_with "exec While BoolOp cons nil" => k_while_given ["bases", "length"] (fun bases length _ spot => 0 ≤ spot ∧ spot ≤ 28 ∧ Mine.lenBB.getD spot.toNat 0 ≤ length) (fun _ _ _ spot => (28 - spot).toNat) "spot")
  (k_with "exec While Compare cons nil" => k_while_given ["number", "small"] (fun number small _ bits => 0 ≤ number ∧ number < 32768 ∧ 2 ≤ small ∧ small ≤ 4 ∧ 0 ≤ bits ∧ bits ≤ 14 ∧ (0 < bits → 2 * small ≤ number.fdiv (2 ^ (bits - 1).toNat))) (fun _ _ _ bits => (14 - bits).toNat) "bits")
  (k_with "subscriptTail Name" => ((with_unfolding_all refine' item_anyK ?k1 ?k2 ?k3 ?k4 ?k5 ?_ ?k6; (case k1 => is_list); (case k2 => l_ints); (case k3 => omega); (case k4 => omega); (case k5 => omega); (case k6 => with_unfolding_all rfl); k_whole); intro _))
  (k_with "binaryOp Pow int int" => first
    | refine pow_int_small (Mine.ee_in (by assumption) _).1 (Mine.ee_in (by assumption) _).2 (by decide) ?_
    | refine pow_int_small (Mine.de_in (by assumption) _).1 (Mine.de_in (by assumption) _).2 (by decide) ?_)
  (k_with "eval ListComp BinOp cons" => (k_here; k_dflt (refine LCg.ListComp_U (F₀ := by k_asm) (by with_unfolding_all rfl) (by decide) (by rfl) (by decide) (by rfl) ?_)))
  (k_with "ite" => first
    | refine W.ite_neg (Mine.not_not_b (Mine.dis_same (by assumption) (by assumption) (by assumption) (by assumption) (by assumption) (Mine.dis_next (by assumption) (by assumption) (by assumption) (by assumption) (by assumption)) (by assumption) (by assumption) (by assumption))) ?_
    | refine W.ite_neg (Mine.not_not_b (Mine.dis_same (by assumption) (by assumption) (by assumption) (by assumption) (by assumption) (Mine.dis_last (by assumption) (by assumption) (by assumption) (by assumption) (by assumption)) (by assumption) (by assumption) (by assumption))) ?_
    | refine W.ite_neg (Mine.dis_below (by assumption) (by assumption) (by assumption) (by assumption) (by assumption) (Mine.dis_next (by assumption) (by assumption) (by assumption) (by assumption) (by assumption))) ?_
    | refine W.ite_neg (Mine.dis_below (by assumption) (by assumption) (by assumption) (by assumption) (by assumption) (Mine.dis_last (by assumption) (by assumption) (by assumption) (by assumption) (by assumption))) ?_
    | refine W.ite_neg (Mine.not_not_b (Mine.len_same (by assumption) (by assumption) (by assumption) (by assumption) (by assumption) (by assumption) (by assumption) (by assumption) (by assumption) (by assumption))) ?_
    | refine W.ite_pos (Mine.len_same (by assumption) (by assumption) (by assumption) (by assumption) (by assumption) (by assumption) (by assumption) (by assumption) (by assumption) (by assumption)) ?_
    | refine W.ite_neg (Mine.not_not_b (Mine.len_same_last (by assumption) (by assumption) (by assumption) (by assumption) (by assumption) (by assumption) (by assumption) (by assumption))) ?_
    | refine W.ite_pos (Mine.len_same_last (by assumption) (by assumption) (by assumption) (by assumption) (by assumption) (by assumption) (by assumption) (by assumption)) ?_
    | refine W.ite_neg (Mine.len_below (by assumption) (by assumption) (by assumption) (by assumption) (by assumption) (by assumption) (by assumption)) ?_
    | refine W.ite_neg (Mine.len_below_last (by assumption) (by assumption) (by assumption) (by assumption) (by assumption) (by assumption) (by assumption) (by assumption)) ?_
    | refine W.ite_neg (Mine.not258 (by assumption) (by assumption) (by assumption) (by assumption) (by assumption)) ?_
    | refine W.ite_pos (Mine.is258 (by assumption) (by assumption) (by assumption) (by assumption) (by assumption) (by assumption) (by assumption)) ?_)
  (k_with "state" => first
    | exact ⟨rfl, rfl, rfl, rfl, rfl⟩
    | exact Mine.len_turn rfl (by assumption) (by assumption) (by assumption) (by assumption) (by assumption) (by assumption) (by assumption)
    | exact Mine.dis_turn rfl (by assumption) (by assumption) (by assumption) (by assumption) (by assumption) (by assumption) (by assumption)
    | exact Mine.spot_start (by assumption) (by assumption)
    | exact Mine.spot_enter (by assumption) (by assumption) (by assumption) (by assumption)
    | exact Mine.spot_turn (by assumption) (by assumption) (by assumption) (by assumption) (by assumption)
    | exact Mine.bits_enter (by assumption) (by assumption)
    | exact Mine.dis_start (by assumption) (by assumption)
    | exact ⟨by assumption, by assumption, by assumption, by assumption⟩
    | exact Mine.told_enter (by assumption) (by assumption)
    | exact Mine.told_turn (by assumption) (by assumption) (by assumption) (by assumption) (by assumption)
    | exact Mine.dbits_enter (by assumption) (by assumption)
    | exact Mine.bits_turn (by assumption) (by assumption) (by assumption) (by assumption) (by assumption) (by assumption) (by assumption)
    | fail "no lemma")
  (k_with "measure" => first
    | exact Mine.spot_less (by assumption) (by assumption)
    | exact Mine.told_less (by assumption) (by assumption)
    | exact Mine.bits_less (by assumption) (by assumption) (by assumption) (by assumption) (by assumption) (by assumption)
    | fail "no lemma")
  open_k
