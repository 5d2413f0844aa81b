/- Texts as lists of letters, and the number that a text of decimal digits tells. No program is in sight. -/
import Derived.Test.YtcmiciloiicfoaaRFormat
namespace Go.Proofs.Ytcmiciloiicfoaa

/-- A text's bytes as whole numbers. -/
def chs (s : ByteArray) : List Int := s.data.toList.map fun b => (b.toNat : Int)
theorem chs_length (s : ByteArray) : (chs s).length = s.size := by unfold chs; rw [List.length_map, Array.length_toList]; rfl
theorem chs_range (s : ByteArray) (i : Nat) : 0 ≤ gd (chs s) i ∧ gd (chs s) i ≤ 255 := by
  unfold gd chs
  rw [List.getD_eq_getElem?_getD, List.getElem?_map]
  cases h : s.data.toList[i]? with
  | none => simp
  | some b =>
    have := b.toNat_lt
    simp
    omega
theorem chs_strOfNums {l : List Int} (h : ∀ d ∈ l, 0 ≤ d ∧ d ≤ 255) : chs (strOfNums l) = l := by
  unfold chs strOfNums
  simp only [List.map_map]
  have : ∀ d ∈ l, ((fun b : UInt8 => (b.toNat : Int)) ∘ fun n : Int => UInt8.ofNat n.toNat) d = d := by
    intro d hd
    have := h d hd
    simp only [Function.comp, UInt8.toNat_ofNat']
    omega
  conv => rhs; rw [← List.map_id l]
  exact List.map_congr_left (fun d hd => by rw [this d hd]; rfl)
theorem chs_extract (s : ByteArray) (p : Nat) : chs (s.extract p s.size) = (chs s).drop p := by
  unfold chs
  rw [ByteArray.data_extract, Array.toList_extract, List.extract_eq_take_drop, ← List.map_drop]
  congr 1
  rw [List.take_of_length_le]
  rw [List.length_drop, Array.length_toList]
  exact Nat.le_refl _

/-- The number that decimal letters tell, the highest first. -/
def dvL (l : List Int) : Int := l.foldl (fun a d => a * 10 + (d - 48)) 0
theorem dvL_snoc (l : List Int) (d : Int) : dvL (l ++ [d]) = dvL l * 10 + (d - 48) := by simp [dvL]
theorem dvL_take_succ {l : List Int} {i : Nat} (h : i < l.length) : dvL (l.take (i + 1)) = dvL (l.take i) * 10 + (gd l i - 48) := by
  rw [List.take_add_one, gd_lt h]
  exact dvL_snoc _ _
theorem dvL_rev (l : List Int) : dvL l.reverse = l.foldr (fun d a => a * 10 + (d - 48)) 0 := by simp [dvL]
theorem decN_value (n : Nat) : (decN n).foldr (fun (d a : Int) => a * 10 + (d - 48)) (0 : Int) = (n : Int) := by
  induction n using Nat.strongRecOn with
  | _ n ih =>
    rcases Nat.eq_zero_or_pos n with rfl | hp
    · rfl
    · rw [decN_pos hp, List.foldr_cons, ih (n / 10) (by omega)]
      omega
theorem decN_letters (n : Nat) : ∀ d ∈ decN n, 48 ≤ d ∧ d ≤ 57 := by
  induction n using Nat.strongRecOn with
  | _ n ih =>
    rcases Nat.eq_zero_or_pos n with rfl | hp
    · simp [decN_zero]
    · rw [decN_pos hp]
      intro d hd
      rcases List.mem_cons.1 hd with rfl | hd
      · omega
      · exact ih (n / 10) (by omega) d hd
theorem decN_top {n : Nat} (h : 0 < n) : ∃ l d, decN n = l ++ [d] ∧ d ≠ 48 := by
  induction n using Nat.strongRecOn with
  | _ n ih =>
    rw [decN_pos h]
    rcases Nat.eq_zero_or_pos (n / 10) with hz | hp
    · rw [hz, decN_zero]
      exact ⟨[], _, rfl, by omega⟩
    · obtain ⟨l, d, e, hd⟩ := ih (n / 10) (by omega) hp
      exact ⟨_ :: l, d, by rw [e]; rfl, hd⟩

/-- A text that Parse takes. -/
structure Good (l : List Int) : Prop where
  pos : 0 < l.length
  lead : ¬ (1 < l.length ∧ gd l 0 = 48)
  all : ∀ i, i < l.length → 48 ≤ gd l i ∧ gd l i ≤ 57
theorem chs_fmtS {V : Int} (h : 0 ≤ V) : Good (chs (fmtS V)) ∧ dvL (chs (fmtS V)) = V := by
  by_cases hz : V = 0
  · subst hz
    have e : chs (fmtS 0) = [48] := rfl
    rw [e]
    exact ⟨⟨by simp, by simp, fun i hi => by obtain rfl : i = 0 := by simp at hi; omega
                                             simp⟩, rfl⟩
  · have hd := decN_letters V.toNat
    have e : chs (fmtS V) = (decI V).reverse := by
      unfold fmtS
      rw [if_neg hz]
      apply chs_strOfNums
      intro d hd'
      have := hd d (List.mem_reverse.1 hd')
      omega
    rw [e]
    obtain ⟨l, t, hl, ht⟩ := decN_top (n := V.toNat) (by omega)
    have e2 : (decI V).reverse = t :: l.reverse := by unfold decI; rw [hl]; simp
    refine ⟨⟨by rw [e2]; simp, by rw [e2]; simp; intro _; exact ht, fun i hi => ?_⟩, ?_⟩
    · have := gd_lt hi
      exact hd _ (List.mem_reverse.1 (List.mem_of_getElem? this))
    · rw [dvL_rev]
      unfold decI
      rw [decN_value]; omega
theorem dvL_nonneg {l : List Int} (h : ∀ i, i < l.length → 48 ≤ gd l i) : 0 ≤ dvL l := by
  have key : ∀ k, k ≤ l.length → 0 ≤ dvL (l.take k) := by
    intro k
    induction k with
    | zero => intro _; simp [dvL]
    | succ k ih =>
      intro hk
      rw [dvL_take_succ (by omega)]
      have := ih (by omega)
      have := h k (by omega)
      omega
  have := key l.length (Nat.le_refl _)
  rwa [List.take_of_length_le (Nat.le_refl _)] at this
end Go.Proofs.Ytcmiciloiicfoaa
