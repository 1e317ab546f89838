/- The contracts of slices.Repeat at one number, of bits.Mul at small numbers, of slices.Max. -/
import Derived.Test.YtnhmeckhlajeaaaUse
import Derived.Test.YtnhmeckhlajeaaaSb
import Derived.Test.YtnhmeckhlajeaaaSc
namespace Go.Proofs.Ytnhmeckhlajeaaa
open Go Go.RowKit Go.Shelf
set_option linter.unusedVariables false
set_option linter.unusedSimpArgs false
set_option linter.unusedSectionVars false
set_option maxRecDepth 100000
set_option maxHeartbeats 1000000

theorem inU64 {a : Int} (h0 : 0 ≤ a) (h1 : a < 18446744073709551616) : InK .u64 a := by
  unfold InK IntKind.wrap
  simp [IntKind.bits, IntKind.signed]
  omega
theorem and32 {x : Int} (h0 : 0 ≤ x) (h1 : x ≤ 65535) : ((x.toNat &&& (4294967295 : Int).toNat : Nat) : Int) = x := by
  have : (4294967295 : Int).toNat = 2 ^ 32 - 1 := rfl
  rw [this, Nat.and_two_pow_sub_one_eq_mod]
  omega
theorem mul64_any (x y : Int) (w : World) (hx : 0 ≤ x ∧ x ≤ 65535) (hy : 0 ≤ y ∧ y ≤ 65535) :
    Calls Try.prog 175 #[.int .u64 x, .int .u64 y] w fun e w' => ∃ r r2 : Int, e = .returned (.tuple #[.int .u64 r, .int .u64 r2]) ∧ r = 0 ∧ r2 = x * y ∧ w = w' := by
  refine ok_math_bits_Mul64 x y w (fun r r2 w' => r = 0 ∧ r2 = x * y ∧ w = w') ?_
  unfold sh_math_bits_Mul64
  have e1 := and32 hx.1 hx.2
  have e2 := and32 hy.1 hy.2
  have hxy0 : 0 ≤ x * y := Int.mul_nonneg hx.1 hy.1
  have hxy1 : x * y ≤ 65535 * 65535 := Int.mul_le_mul hx.2 hy.2 hy.1 (by omega)
  have p32 : (2 : Int) ^ (32 : Int).toNat = 4294967296 := rfl
  have e3 : x / 4294967296 = 0 := by omega
  have e4 : y / 4294967296 = 0 := by omega
  have e5 : x * y / 4294967296 = 0 := by omega
  have e6 := and32 (x := 0) (by omega) (by omega)
  simp only [e1, e2, p32, e3, e4, e5, Int.zero_mul, Int.mul_zero, Int.add_zero, Int.zero_add, e6]
  have z : InK .u64 0 := inU64 (by omega) (by omega)
  have zz : (0 : Int) / 4294967296 = 0 := by omega
  simp only [zz, Int.add_zero, Int.zero_add]
  refine ⟨by omega, by omega, by omega, by omega, inU64 (by omega) (by omega), z, by omega, z, by omega, by omega, z, z, z, z, by omega, z, inU64 (by omega) (by omega), trivial, trivial, trivial⟩
theorem mul_any (x y : Int) (w : World) (hx : 0 ≤ x ∧ x ≤ 65535) (hy : 0 ≤ y ∧ y ≤ 65535) :
    Calls Try.prog 164 #[.int .u64 x, .int .u64 y] w fun e w' => ∃ r r2 : Int, e = .returned (.tuple #[.int .u64 r, .int .u64 r2]) ∧ r = 0 ∧ r2 = x * y ∧ w = w' := by
  refine ok_math_bits_Mul x y w (fun r r2 w' => r = 0 ∧ r2 = x * y ∧ w = w') ?_
  unfold sh_math_bits_Mul
  refine (mul64_any x y w hx hy).mono ?_
  rintro _ w2 ⟨r, r2, rfl, h1, h2, h3⟩
  exact ⟨_, _, rfl, h1, h2, h3⟩

theorem setL_rep (v : Int) : ∀ (j k m : Nat), j ≤ m → setL ((List.replicate k v ++ List.replicate m 0).map (Value.int .i64)) k (List.replicate j (Value.int .i64 v)) = (List.replicate (k + j) v ++ List.replicate (m - j) 0).map (Value.int .i64)
  | 0, k, m, _ => by simp [setL]
  | j + 1, k, m, h => by
    obtain ⟨m, rfl⟩ : ∃ m', m = m' + 1 := ⟨m - 1, by omega⟩
    rw [show List.replicate (j + 1) (Value.int .i64 v) = Value.int .i64 v :: List.replicate j (Value.int .i64 v) from rfl]
    show setL (((List.replicate k v ++ List.replicate (m + 1) 0).map (Value.int .i64)).set k (Value.int .i64 v)) (k + 1) (List.replicate j (Value.int .i64 v)) = _
    have h1 : ((List.replicate k v ++ List.replicate (m + 1) 0).map (Value.int .i64)).set k (Value.int .i64 v) = (List.replicate (k + 1) v ++ List.replicate m 0).map (Value.int .i64) := by
      rw [← List.map_set]
      congr 1
      rw [List.set_append_right _ _ (by simp)]
      rw [List.length_replicate, Nat.sub_self, List.replicate_succ, List.set_cons_zero, List.replicate_succ' (n := k), List.append_assoc]
      rfl
    rw [h1, setL_rep v j (k + 1) m (by omega)]
    congr 3 <;> omega

def RepPost (v : Int) (n : Nat) (w : World) (A : Option Addr) (l c : Nat) (w' : World) : Prop :=
  ∃ g, A = some ⟨g, 0, none⟩ ∧ l = n ∧ c = n ∧ w.heap.size ≤ g ∧ IRow w' g 3 n (List.replicate n v) ∧ Pure w w'
theorem repeat_any (A : Option Addr) (v : Int) (c n : Nat) (w : World) (hA : Ints w A [v]) (hn : 1 ≤ n) (hn2 : n ≤ 1000) :
    Calls Try.prog 147 #[.slice A 1 c, .int .i64 (n : Int)] w fun e w' => ∃ A' l' c', e = .returned (.slice A' l' c') ∧ RepPost v n w A' l' c' w' := by
  refine ok_slices_Repeat_ A 1 c n w (RepPost v n w) ?_
  unfold sh_slices_Repeat_
  refine ⟨fun w' => w' = w, ?_, fun h => absurd h (by omega), fun _ => rfl⟩
  intro w2 hw2
  have hw2 := hw2.symm
  subst hw2
  refine ⟨inU64 (by omega) (by omega), inU64 (by omega) (by omega), (mul_any _ _ _ (by omega) (by omega)).mono ?_⟩
  rintro _ w3 ⟨r, r2, rfl, rfl, rfl, rfl⟩
  refine ⟨_, _, rfl, fun w' => w' = w, ?_, fun h => absurd h (by omega), fun _ => ⟨fun h => absurd h (by omega), fun _ => rfl⟩⟩
  intro w4 hw4
  have hw4 := hw4.symm
  subst hw4
  obtain ⟨b, off, rfl, hb, hc⟩ := hA (by simp)
  have e1 : ((1 : Nat) : Int) * (n : Int) = (n : Int) := by omega
  rw [e1]
  simp only [Int.toNat_natCast]
  refine ⟨in64 (by omega), by omega, fun g w5 hN => ?_⟩
  have ag := hN.at_
  have hr5 : IRow w5 g 3 n (List.replicate n 0) := by
    have := hN.row
    simpa [IRow] using this
  have hr5' : Row w5 g 3 n ((List.replicate 0 v ++ List.replicate n 0).map (Value.int .i64)) := by simpa [IRow] using hr5
  have hcv := (hN.keeps (fun _ => False)).cell (p := ⟨b, off, none⟩) id (hc 0 (by simp))
  refine ⟨g, 0, ⟨b, off, none⟩, [.int .i64 v], rfl, rfl, by simp; omega, ?_, by simp [Value.oneCell'], there_row hr5' (by simp; omega), fun w6 e6 => ?_⟩
  · intro j u hj
    cases j with
    | zero => simp only [List.getElem?_cons_zero, Option.some.injEq] at hj; subst hj; exact hcv
    | succ j => simp at hj
  have hr6 : IRow w6 g 3 n (List.replicate 1 v ++ List.replicate (n - 1) 0) := by
    rw [e6]
    have := row_setn [.int .i64 v] 0 hr5'
    rw [show [Value.int .i64 v] = List.replicate 1 (Value.int .i64 v) from rfl, setL_rep v 1 0 n (by omega)] at this
    exact this
  have hp6 : Pure w w6 := by
    rw [e6]
    exact (hN.keeps _).setCell (fun h => absurd h (by simp; omega)) _
  refine ⟨fun m i w7 => ∃ k : Nat, m = n - k ∧ 1 ≤ k ∧ k ≤ n ∧ i = (k : Int) ∧ IRow w7 g 3 n (List.replicate k v ++ List.replicate (n - k) 0) ∧ Pure w w7, ⟨n - 1, 1, rfl, by omega, by omega, by omega, hr6, hp6⟩, ?_⟩
  clear hr6 hp6
  rintro m i w7 ⟨k, rfl, hk1, hk2, rfl, hr, hp⟩
  simp only [Int.toNat_natCast]
  refine ⟨fun hlt => ?_, fun hge => ?_⟩
  · have hs : slA (some ⟨g, 0, none⟩) n k 1 = some ⟨g, k, none⟩ := by
      unfold slA
      rw [if_neg (by omega)]
      simp [Addr.add_mid]
    have hrd : Row w7.drew g 3 n ((List.replicate k v ++ List.replicate (n - k) 0).map (Value.int .i64)) := Row.drew hr
    refine ⟨by omega, by omega, g, k, ⟨g, 0, none⟩, List.replicate (min k (n - k)) (.int .i64 v), hs, rfl, by simp, ?_, ?_, there_row hrd (by simp; omega), fun w8 e8 => ?_⟩
    · intro j u hj
      have hj1 : j < min k (n - k) := by
        rcases Nat.lt_or_ge j (min k (n - k)) with h | h
        · exact h
        · rw [List.getElem?_eq_none (by simpa using h)] at hj; cases hj
      rw [List.getElem?_replicate, if_pos hj1] at hj
      cases hj
      rw [add_zero_]
      have := icell (w := w7.drew) (xs := List.replicate k v ++ List.replicate (n - k) 0) hrd (k := j) (by simp; omega)
      rw [this]
      congr 2
      unfold gi
      simp [List.getElem?_append, List.getElem?_replicate]
      rw [if_pos (by omega), if_pos (by omega)]
      rfl
    · intro u hu
      rw [List.mem_replicate] at hu
      rw [hu.2]; rfl
    · refine ⟨in64 (by omega), n - (k + min k (n - k)), by omega, k + min k (n - k), rfl, by omega, by omega, by omega, ?_, ?_⟩
      · rw [e8]
        have := row_setn (List.replicate (min k (n - k)) (.int .i64 v)) k hrd
        rw [setL_rep v _ k (n - k) (by omega)] at this
        rw [show n - (k + min k (n - k)) = n - k - min k (n - k) by omega]
        exact this
      · rw [e8]
        have hgw : w.heap.size ≤ g := by omega
        have key : ∀ (vs : List Value) (o : Nat) (W : World), Pure w W → Pure w (W.setCells g o vs) := by
          intro vs
          induction vs with
          | nil => intro o W h; exact h
          | cons u vs ih => intro o W h; exact ih _ _ (h.setCell (fun h => absurd h (by simp; omega)) _)
        exact key _ _ _ hp.drew
  · obtain rfl : k = n := by omega
    exact ⟨g, rfl, rfl, rfl, by omega, by simpa using hr, hp⟩
end Go.Proofs.Ytnhmeckhlajeaaa
