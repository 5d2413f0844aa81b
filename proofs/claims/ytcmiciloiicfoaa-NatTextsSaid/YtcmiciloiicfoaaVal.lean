/- Plain arithmetic of lists of digits to the base 2^32, the lowest digit first: their values, their normal forms, and the one normal list of each number. No program is in sight. -/
namespace Go.Proofs.Ytcmiciloiicfoaa

/-- Element k of a list, 0 behind its end; closed to the walk. -/
def gd (xs : List Int) (k : Nat) : Int := xs.getD k 0
theorem gd_lt {xs : List Int} {k : Nat} (h : k < xs.length) : xs[k]? = some (gd xs k) := by
  simp [gd, List.getD_eq_getElem?_getD, List.getElem?_eq_getElem h]
theorem gd_ge {xs : List Int} {k : Nat} (h : xs.length ≤ k) : gd xs k = 0 := by
  simp [gd, List.getD_eq_getElem?_getD, List.getElem?_eq_none h]
theorem gd_take {xs : List Int} {m j : Nat} (h : j < m) : gd (xs.take m) j = gd xs j := by
  simp only [gd, List.getD_eq_getElem?_getD, List.getElem?_take_of_lt h]
theorem gd_drop (xs : List Int) (m j : Nat) : gd (xs.drop m) j = gd xs (m + j) := by
  simp only [gd, List.getD_eq_getElem?_getD, List.getElem?_drop]
@[simp] theorem gd_nil (k : Nat) : gd [] k = 0 := by simp [gd]
@[simp] theorem gd_zero (d : Int) (xs : List Int) : gd (d :: xs) 0 = d := by simp [gd]
@[simp] theorem gd_succ (d : Int) (xs : List Int) (k : Nat) : gd (d :: xs) (k + 1) = gd xs k := by simp [gd]
theorem gd_set {xs : List Int} {i j : Nat} {x : Int} (h : i < xs.length) : gd (xs.set i x) j = if i = j then x else gd xs j := by
  simp only [gd, List.getD_eq_getElem?_getD, List.getElem?_set, h, if_true]
  split <;> simp
theorem gd_set_ne {xs : List Int} {i j : Nat} {x : Int} (h : i ≠ j) : gd (xs.set i x) j = gd xs j := by
  simp only [gd, List.getD_eq_getElem?_getD, List.getElem?_set_ne h]
theorem gd_append_left {xs ys : List Int} {j : Nat} (h : j < xs.length) : gd (xs ++ ys) j = gd xs j := by
  simp only [gd, List.getD_eq_getElem?_getD, List.getElem?_append_left h]
theorem gd_append_right {xs ys : List Int} {j : Nat} (h : xs.length ≤ j) : gd (xs ++ ys) j = gd ys (j - xs.length) := by
  simp only [gd, List.getD_eq_getElem?_getD, List.getElem?_append_right h]
theorem gd_replicate (n j : Nat) : gd (List.replicate n 0) j = 0 := by
  simp only [gd, List.getD_eq_getElem?_getD, List.getElem?_replicate]
  split <;> rfl

/-- The base's powers. -/
def pw (i : Nat) : Int := 4294967296 ^ i
@[simp] theorem pw_zero : pw 0 = 1 := rfl
theorem pw_succ (i : Nat) : pw (i + 1) = 4294967296 * pw i := by unfold pw; rw [Int.pow_succ]; exact Int.mul_comm _ _
theorem pw_pos (i : Nat) : 0 < pw i := by
  induction i with
  | zero => decide
  | succ i ih => rw [pw_succ]; omega
theorem pw_add (i j : Nat) : pw (i + j) = pw i * pw j := by unfold pw; exact Int.pow_add _ _ _
theorem pw_le {i j : Nat} (h : i ≤ j) : pw i ≤ pw j := by
  induction j with
  | zero => obtain rfl : i = 0 := by omega
            exact Int.le_refl _
  | succ j ih =>
    rcases Nat.lt_or_ge j i with hlt | hge
    · obtain rfl : i = j + 1 := by omega
      exact Int.le_refl _
    · have := ih hge
      have := pw_pos j
      rw [pw_succ]; omega

/-- The value. -/
def val : List Int → Int
  | [] => 0
  | d :: ds => d + 4294967296 * val ds
@[simp] theorem val_nil : val [] = 0 := rfl
@[simp] theorem val_cons (d : Int) (ds : List Int) : val (d :: ds) = d + 4294967296 * val ds := rfl
theorem val_append (xs ys : List Int) : val (xs ++ ys) = val xs + pw xs.length * val ys := by
  induction xs with
  | nil => simp
  | cons d ds ih =>
    simp only [List.cons_append, val_cons, List.length_cons, ih, pw_succ]
    grind
theorem val_replicate (n : Nat) : val (List.replicate n 0) = 0 := by
  induction n with
  | zero => rfl
  | succ n ih => rw [List.replicate_succ, val_cons, ih]; rfl
theorem val_set {xs : List Int} {i : Nat} (x : Int) (h : i < xs.length) : val (xs.set i x) = val xs + pw i * (x - gd xs i) := by
  induction xs generalizing i with
  | nil => simp at h
  | cons d ds ih =>
    cases i with
    | zero => simp; omega
    | succ i =>
      have := ih (i := i) (by simpa using h)
      simp only [List.set_cons_succ, val_cons, this, gd_succ, pw_succ]
      grind
theorem val_take_succ (xs : List Int) (i : Nat) : val (xs.take (i + 1)) = val (xs.take i) + pw i * gd xs i := by
  induction xs generalizing i with
  | nil => simp
  | cons d ds ih =>
    cases i with
    | zero => simp
    | succ i =>
      have := ih i
      simp only [List.take_succ_cons, val_cons, gd_succ, pw_succ, this]
      grind
theorem val_take_ge {xs : List Int} {i : Nat} (h : xs.length ≤ i) : val (xs.take i) = val xs := by rw [List.take_of_length_le h]
theorem val_take_drop (xs : List Int) (i : Nat) (h : i ≤ xs.length) : val xs = val (xs.take i) + pw i * val (xs.drop i) := by
  have := val_append (xs.take i) (xs.drop i)
  rw [List.take_append_drop, List.length_take, Nat.min_eq_left h] at this
  exact this
theorem take_set_ge {xs : List Int} {i j : Nat} {x : Int} (h : i ≤ j) : (xs.set j x).take i = xs.take i := by
  rw [List.take_set_of_le h]

/-- All elements are digits. -/
def Dg (xs : List Int) : Prop := ∀ d ∈ xs, 0 ≤ d ∧ d < 4294967296
theorem Dg.nil : Dg [] := by simp [Dg]
theorem Dg.cons {d : Int} {ds : List Int} (h0 : 0 ≤ d) (h1 : d < 4294967296) (h : Dg ds) : Dg (d :: ds) := by
  intro e he
  rcases List.mem_cons.1 he with rfl | he
  · exact ⟨h0, h1⟩
  · exact h e he
theorem Dg.head {d : Int} {ds : List Int} (h : Dg (d :: ds)) : 0 ≤ d ∧ d < 4294967296 := h d (by simp)
theorem Dg.tail {d : Int} {ds : List Int} (h : Dg (d :: ds)) : Dg ds := fun e he => h e (by simp [he])
theorem Dg.gd {xs : List Int} (h : Dg xs) (k : Nat) : 0 ≤ gd xs k ∧ gd xs k < 4294967296 := by
  rcases Nat.lt_or_ge k xs.length with hlt | hge
  · exact h _ (List.mem_of_getElem? (gd_lt hlt))
  · rw [gd_ge hge]; omega
theorem Dg.of_gd {xs : List Int} (h : ∀ k, k < xs.length → 0 ≤ Ytcmiciloiicfoaa.gd xs k ∧ Ytcmiciloiicfoaa.gd xs k < 4294967296) : Dg xs := by
  intro d hd
  obtain ⟨k, hk⟩ := List.mem_iff_getElem?.1 hd
  have hlt := (List.getElem?_eq_some_iff.1 hk).1
  have := gd_lt hlt
  rw [hk] at this
  injection this with this
  rw [this]
  exact h k hlt
theorem Dg.take {xs : List Int} (h : Dg xs) (m : Nat) : Dg (xs.take m) := fun d hd => h d (List.mem_of_mem_take hd)
theorem Dg.drop {xs : List Int} (h : Dg xs) (m : Nat) : Dg (xs.drop m) := fun d hd => h d (List.mem_of_mem_drop hd)
theorem Dg.append {xs ys : List Int} (h : Dg xs) (k : Dg ys) : Dg (xs ++ ys) := by
  intro d hd
  rcases List.mem_append.1 hd with hd | hd
  · exact h d hd
  · exact k d hd
theorem Dg.set {xs : List Int} (h : Dg xs) (i : Nat) {x : Int} (h0 : 0 ≤ x) (h1 : x < 4294967296) : Dg (xs.set i x) := by
  intro d hd
  rcases List.mem_or_eq_of_mem_set hd with hd | rfl
  · exact h d hd
  · exact ⟨h0, h1⟩
theorem Dg.replicate (n : Nat) : Dg (List.replicate n 0) := by
  intro d hd
  rw [(List.mem_replicate.1 hd).2]; omega
theorem val_nonneg {xs : List Int} (h : Dg xs) : 0 ≤ val xs := by
  induction xs with
  | nil => simp
  | cons d ds ih =>
    have := ih h.tail
    have := h.head
    simp only [val_cons]; omega
theorem val_lt {xs : List Int} (h : Dg xs) : val xs < pw xs.length := by
  induction xs with
  | nil => simp
  | cons d ds ih =>
    have := ih h.tail
    have := h.head
    simp only [val_cons, List.length_cons, pw_succ]; omega

/-- The part in front of the zeros at the end. -/
def cutN (xs : List Int) : Nat → Nat
  | 0 => 0
  | n + 1 => if gd xs n = 0 then cutN xs n else n + 1
def cutLen (xs : List Int) : Nat := cutN xs xs.length
def cutL (xs : List Int) : List Int := xs.take (cutLen xs)
theorem cutN_le (xs : List Int) (n : Nat) : cutN xs n ≤ n := by
  induction n with
  | zero => simp [cutN]
  | succ n ih => unfold cutN; split <;> omega
theorem cutLen_le (xs : List Int) : cutLen xs ≤ xs.length := cutN_le xs _
theorem cutN_skip {xs : List Int} {n : Nat} (h : gd xs n = 0) : cutN xs (n + 1) = cutN xs n := by rw [cutN, if_pos h]
theorem cutN_stop {xs : List Int} {n : Nat} (h : gd xs n ≠ 0) : cutN xs (n + 1) = n + 1 := by rw [cutN, if_neg h]
theorem cutL_length (xs : List Int) : (cutL xs).length = cutLen xs := by
  have := cutLen_le xs
  unfold cutL; rw [List.length_take]; omega
theorem cutN_val (xs : List Int) (n : Nat) : val (xs.take (cutN xs n)) = val (xs.take n) := by
  induction n with
  | zero => rfl
  | succ n ih =>
    by_cases h : gd xs n = 0
    · rw [cutN_skip h, ih, val_take_succ, h]; simp
    · rw [cutN_stop h]
theorem cutL_val (xs : List Int) : val (cutL xs) = val xs := by
  unfold cutL cutLen; rw [cutN_val, List.take_length]
theorem cutN_last (xs : List Int) (n : Nat) (h : 0 < cutN xs n) : gd xs (cutN xs n - 1) ≠ 0 := by
  induction n with
  | zero => simp [cutN] at h
  | succ n ih =>
    by_cases hz : gd xs n = 0
    · rw [cutN_skip hz] at h ⊢; exact ih h
    · rw [cutN_stop hz]; simpa using hz
/-- Normal: the last element is not 0. -/
def Nm (xs : List Int) : Prop := 0 < xs.length → gd xs (xs.length - 1) ≠ 0
theorem Nm.nil : Nm [] := by intro h; simp at h
theorem cutL_nm (xs : List Int) : Nm (cutL xs) := by
  intro h
  rw [cutL_length] at h ⊢
  unfold cutL
  rw [gd_take (by omega)]
  exact cutN_last xs _ h
theorem cutL_dg {xs : List Int} (h : Dg xs) : Dg (cutL xs) := h.take _
theorem Nm.cutL {xs : List Int} (h : Nm xs) : cutL xs = xs := by
  unfold Ytcmiciloiicfoaa.cutL cutLen
  cases hx : xs.length with
  | zero => rw [List.length_eq_zero_iff.1 hx]; rfl
  | succ n =>
    have := h (by omega)
    rw [hx] at this
    rw [cutN_stop (by simpa using this), ← hx, List.take_length]

/-- The normal list of a number. -/
def canonN (n : Nat) : List Int := if h : n = 0 then [] else ((n % 4294967296 : Nat) : Int) :: canonN (n / 4294967296)
termination_by n
decreasing_by omega
def canon (n : Int) : List Int := canonN n.toNat
theorem canonN_zero : canonN 0 = [] := by rw [canonN]; simp
theorem canonN_pos {n : Nat} (h : n ≠ 0) : canonN n = ((n % 4294967296 : Nat) : Int) :: canonN (n / 4294967296) := by rw [canonN]; simp [h]
theorem canonN_val (n : Nat) : val (canonN n) = n := by
  induction n using Nat.strongRecOn with
  | _ n ih =>
    by_cases h : n = 0
    · subst h; rw [canonN_zero]; rfl
    · rw [canonN_pos h, val_cons, ih _ (by omega)]
      omega
theorem canonN_dg (n : Nat) : Dg (canonN n) := by
  induction n using Nat.strongRecOn with
  | _ n ih =>
    by_cases h : n = 0
    · subst h; rw [canonN_zero]; exact Dg.nil
    · rw [canonN_pos h]
      exact Dg.cons (by omega) (by omega) (ih _ (by omega))
theorem canon_val {n : Int} (h : 0 ≤ n) : val (canon n) = n := by unfold canon; rw [canonN_val]; omega
theorem canon_dg (n : Int) : Dg (canon n) := canonN_dg _
theorem canon_zero : canon 0 = [] := canonN_zero
theorem Nm.tail {d : Int} {ds : List Int} (h : Nm (d :: ds)) : Nm ds := by
  intro hl
  have := h (by simp)
  simp only [List.length_cons, Nat.add_sub_cancel] at this
  obtain ⟨m, hm⟩ : ∃ m, ds.length = m + 1 := ⟨ds.length - 1, by omega⟩
  rw [hm] at this ⊢
  simpa using this
theorem nm_pos {xs : List Int} (h : Dg xs) (hn : Nm xs) (hl : 0 < xs.length) : pw (xs.length - 1) ≤ val xs := by
  induction xs with
  | nil => simp at hl
  | cons d ds ih =>
    have hd := h.head
    have hv := val_nonneg h.tail
    rcases Nat.eq_zero_or_pos ds.length with h0 | h0
    · obtain rfl := List.length_eq_zero_iff.1 h0
      have := hn (by simp)
      simp at this
      simp; omega
    · have := ih h.tail hn.tail h0
      obtain ⟨m, hm⟩ : ∃ m, ds.length = m + 1 := ⟨ds.length - 1, by omega⟩
      simp only [List.length_cons, Nat.add_sub_cancel, val_cons]
      rw [hm] at this ⊢
      simp only [Nat.add_sub_cancel] at this
      rw [pw_succ]; omega
theorem canon_of {xs : List Int} (h : Dg xs) (hn : Nm xs) : xs = canon (val xs) := by
  induction xs with
  | nil => exact canon_zero.symm
  | cons d ds ih =>
    have hd := h.head
    have hv := val_nonneg h.tail
    have hp := nm_pos h hn (by simp)
    have hpw := pw_pos ((d :: ds).length - 1)
    have := ih h.tail hn.tail
    unfold canon at this ⊢
    simp only [val_cons] at hp ⊢
    rw [canonN_pos (by omega)]
    have e1 : (((d + 4294967296 * val ds).toNat % 4294967296 : Nat) : Int) = d := by omega
    have e2 : (d + 4294967296 * val ds).toNat / 4294967296 = (val ds).toNat := by omega
    rw [e1, e2, ← this]
theorem cutL_canon {xs : List Int} (h : Dg xs) : cutL xs = canon (val xs) := by
  have := canon_of (cutL_dg h) (cutL_nm xs)
  rwa [cutL_val] at this
theorem canonN_nm (n : Nat) : Nm (canonN n) := by
  induction n using Nat.strongRecOn with
  | _ n ih =>
    by_cases h : n = 0
    · subst h; rw [canonN_zero]; exact Nm.nil
    · rw [canonN_pos h]
      intro _
      simp only [List.length_cons, Nat.add_sub_cancel]
      cases hl : (canonN (n / 4294967296)).length with
      | zero =>
        by_cases hq : n / 4294967296 = 0
        · simp; omega
        · rw [canonN_pos hq] at hl; simp at hl
      | succ m =>
        have := ih (n / 4294967296) (by omega) (by omega)
        rw [hl] at this
        simpa using this
theorem canon_nm (n : Int) : Nm (canon n) := canonN_nm _
theorem cutL_canon_self (n : Int) : cutL (canon n) = canon n := (canon_nm n).cutL
theorem canon_length_le {n : Int} {L : Nat} (h0 : 0 ≤ n) (h : n < pw L) : (canon n).length ≤ L := by
  rcases Nat.lt_or_ge L (canon n).length with hlt | hge
  · have h1 := nm_pos (canon_dg n) (canon_nm n) (by omega)
    rw [canon_val h0] at h1
    have := pw_le (i := L) (j := (canon n).length - 1) (by omega)
    omega
  · exact hge
theorem canon_inj {m n : Int} (hm : 0 ≤ m) (hn : 0 ≤ n) (h : canon m = canon n) : m = n := by
  have := congrArg val h
  rwa [canon_val hm, canon_val hn] at this
theorem canon_nil_iff {n : Int} (h : 0 ≤ n) : (canon n).length = 0 ↔ n = 0 := by
  constructor
  · intro hl
    have := canon_val h
    rw [List.length_eq_zero_iff.1 hl] at this
    simpa using this.symm
  · rintro rfl; rw [canon_zero]; rfl
end Go.Proofs.Ytcmiciloiicfoaa
namespace Go.Proofs.Ytcmiciloiicfoaa
/-- The state of nat.Add's loop after i rounds. -/
structure AddInv (xs ys : List Int) (i : Nat) (s : List Int) (c : Int) : Prop where
  len : s.length = xs.length + 1
  dg : Dg s
  c0 : 0 ≤ c
  c1 : c ≤ 1
  eq : val (s.take i) + pw i * c = val (xs.take i) + val (ys.take i)
theorem AddInv.init (xs ys : List Int) : AddInv xs ys 0 (List.replicate (xs.length + 1) 0) 0 :=
  ⟨by simp, Dg.replicate _, by omega, by omega, by simp⟩
theorem AddInv.step {xs ys : List Int} {i : Nat} {s : List Int} {c : Int} (h : AddInv xs ys i s c) (hx : Dg xs) (hy : Dg ys) (hi : i < xs.length) :
    AddInv xs ys (i + 1) (s.set i ((gd xs i + c + gd ys i) % 4294967296)) ((gd xs i + c + gd ys i) / 4294967296) := by
  have a := hx.gd i
  have b := hy.gd i
  have := h.c0
  have := h.c1
  have hl := h.len
  have he := h.eq
  refine ⟨by rw [List.length_set]; exact hl, h.dg.set _ (by omega) (by omega), by omega, by omega, ?_⟩
  rw [val_take_succ, val_take_succ, val_take_succ, take_set_ge (Nat.le_refl i), gd_set (by omega), if_pos rfl, pw_succ]
  have e := Int.emod_add_mul_ediv (gd xs i + c + gd ys i) 4294967296
  generalize (gd xs i + c + gd ys i) % 4294967296 = r at *
  generalize (gd xs i + c + gd ys i) / 4294967296 = q at *
  have : pw i * gd xs i + pw i * c + pw i * gd ys i = pw i * r + 4294967296 * pw i * q := by
    have : gd xs i + c + gd ys i = r + 4294967296 * q := by omega
    grind
  omega
theorem AddInv.final {xs ys : List Int} {s : List Int} {c : Int} (h : AddInv xs ys xs.length s c) (hle : ys.length ≤ xs.length) :
    Dg (s.set xs.length (c % 4294967296)) ∧ val (s.set xs.length (c % 4294967296)) = val xs + val ys := by
  have := h.c0
  have := h.c1
  have hl := h.len
  have he := h.eq
  refine ⟨h.dg.set _ (by omega) (by omega), ?_⟩
  have e1 : (s.set xs.length (c % 4294967296)) = (s.set xs.length (c % 4294967296)).take (xs.length + 1) := by rw [List.take_of_length_le]; simp; omega
  rw [e1, val_take_succ, take_set_ge (Nat.le_refl _), gd_set (by omega), if_pos rfl]
  rw [val_take_ge (Nat.le_refl _), val_take_ge hle] at he
  have : c % 4294967296 = c := by omega
  rw [this]; exact he
end Go.Proofs.Ytcmiciloiicfoaa
namespace Go.Proofs.Ytcmiciloiicfoaa
/-- cmp.Compare. -/
def cmpI (a b : Int) : Int := if a < b then -1 else if a = b then 0 else 1
theorem cmpI_lt {a b : Int} (h : a < b) : cmpI a b = -1 := by unfold cmpI; rw [if_pos h]
theorem cmpI_eq (a : Int) : cmpI a a = 0 := by unfold cmpI; simp
theorem cmpI_gt {a b : Int} (h : b < a) : cmpI a b = 1 := by unfold cmpI; rw [if_neg (by omega), if_neg (by omega)]
theorem drop_cons {xs : List Int} {i : Nat} (h : i < xs.length) : xs.drop i = gd xs i :: xs.drop (i + 1) := by
  rw [List.drop_eq_getElem_cons h]
  congr 1
  have := gd_lt h
  rw [List.getElem?_eq_getElem h] at this
  injection this
theorem list_ext {xs ys : List Int} (hl : xs.length = ys.length) (h : ∀ j, j < xs.length → gd xs j = gd ys j) : xs = ys := by
  apply List.ext_getElem? 
  intro j
  rcases Nat.lt_or_ge j xs.length with hlt | hge
  · rw [gd_lt hlt, gd_lt (by omega), h j hlt]
  · rw [List.getElem?_eq_none hge, List.getElem?_eq_none (by omega)]
/-- Two lists that agree behind place i compare as their elements there do. -/
theorem val_lt_of_top {xs ys : List Int} {i : Nat} (hx : Dg xs) (hy : Dg ys) (hl : xs.length = ys.length) (hi : i < xs.length) (he : ∀ j, i < j → gd xs j = gd ys j) (h : gd xs i < gd ys i) : val xs < val ys := by
  have e : xs.drop (i + 1) = ys.drop (i + 1) := by
    apply list_ext
    · simp; omega
    · intro j _
      rw [gd_drop, gd_drop]; exact he _ (by omega)
  rw [val_take_drop xs i (by omega), val_take_drop ys i (by omega), drop_cons hi, drop_cons (xs := ys) (by omega), val_cons, val_cons, e]
  have a := val_lt (hx.take i)
  rw [List.length_take, Nat.min_eq_left (by omega)] at a
  have b := val_nonneg (hy.take i)
  generalize val (ys.drop (i + 1)) = v
  have : pw i * (gd xs i + 4294967296 * v) + pw i ≤ pw i * (gd ys i + 4294967296 * v) := by
    have h1 : pw i * (gd ys i + 4294967296 * v) = pw i * (gd xs i + 4294967296 * v) + pw i + pw i * (gd ys i - gd xs i - 1) := by grind
    have h2 : 0 ≤ pw i * (gd ys i - gd xs i - 1) := Int.mul_nonneg (Int.le_of_lt (pw_pos i)) (by omega)
    omega
  omega
theorem val_lt_of_length {xs ys : List Int} (hx : Dg xs) (hy : Dg ys) (ny : Nm ys) (h : xs.length < ys.length) : val xs < val ys := by
  have a := val_lt hx
  have b := nm_pos hy ny (by omega)
  have := pw_le (i := xs.length) (j := ys.length - 1) (by omega)
  omega
/-- The loop of Compare: the lists agree from place i on. -/
def Agree (xs ys : List Int) (i : Nat) : Prop := ∀ j, i ≤ j → gd xs j = gd ys j
theorem Agree.init {xs ys : List Int} (hl : xs.length = ys.length) : Agree xs ys xs.length := fun j hj => by rw [gd_ge hj, gd_ge (by omega)]
theorem Agree.step {xs ys : List Int} {i : Nat} (h : Agree xs ys (i + 1)) (he : gd xs i = gd ys i) : Agree xs ys i := fun j hj => by
  rcases Nat.eq_or_lt_of_le hj with rfl | hlt
  · exact he
  · exact h j (by omega)
theorem Agree.eq {xs ys : List Int} (h : Agree xs ys 0) (hl : xs.length = ys.length) : xs = ys := list_ext hl fun j _ => h j (Nat.zero_le _)
theorem Agree.cmp {xs ys : List Int} {i : Nat} (h : Agree xs ys (i + 1)) (hl : xs.length = ys.length) (hx : Dg xs) (hy : Dg ys) (hi : i < xs.length) : gd xs i ≠ gd ys i → cmpI (gd xs i) (gd ys i) = cmpI (val xs) (val ys) := by
  intro hne
  rcases Int.lt_or_gt_of_ne hne with hlt | hgt
  · rw [cmpI_lt hlt, cmpI_lt (val_lt_of_top hx hy hl hi (fun j hj => h j (by omega)) hlt)]
  · rw [cmpI_gt hgt, cmpI_gt (val_lt_of_top hy hx hl.symm (by omega) (fun j hj => (h j (by omega)).symm) hgt)]
theorem cmp_length {xs ys : List Int} (hx : Dg xs) (hy : Dg ys) (nx : Nm xs) (ny : Nm ys) (h : xs.length ≠ ys.length) : cmpI (xs.length : Int) (ys.length : Int) = cmpI (val xs) (val ys) := by
  rcases Nat.lt_or_gt_of_ne h with hlt | hgt
  · rw [cmpI_lt (by omega), cmpI_lt (val_lt_of_length hx hy ny hlt)]
  · rw [cmpI_gt (by omega), cmpI_gt (val_lt_of_length hy hx nx hgt)]
end Go.Proofs.Ytcmiciloiicfoaa
