/- nat.Format: a number's decimal digits. -/
import Derived.Test.YtcmiciloiicfoaaRev
namespace Go.Proofs.Ytcmiciloiicfoaa
open Go.RowKit Go.Proofs.YtcmiciloiicfoaaW.PrintWords

/-- The decimal digits of a number as letters, the lowest first; none for 0. -/
def decF : Nat → Nat → List Int
  | 0, _ => []
  | f + 1, n => if n = 0 then [] else ((48 + n % 10 : Nat) : Int) :: decF f (n / 10)
def decN (n : Nat) : List Int := decF n n
theorem decF_fuel (f g n : Nat) (hf : n ≤ f) (hg : n ≤ g) : decF f n = decF g n := by
  induction f generalizing g n with
  | zero =>
    obtain rfl : n = 0 := by omega
    cases g <;> simp [decF]
  | succ f ih =>
    cases g with
    | zero =>
      obtain rfl : n = 0 := by omega
      simp [decF]
    | succ g =>
      simp only [decF]
      by_cases h : n = 0
      · rw [if_pos h, if_pos h]
      · rw [if_neg h, if_neg h, ih g (n / 10) (by omega) (by omega)]
theorem decN_zero : decN 0 = [] := rfl
theorem decN_pos {n : Nat} (h : 0 < n) : decN n = ((48 + n % 10 : Nat) : Int) :: decN (n / 10) := by
  obtain ⟨m, rfl⟩ : ∃ m, n = m + 1 := ⟨n - 1, by omega⟩
  unfold decN
  rw [show decF (m + 1) (m + 1) = if m + 1 = 0 then [] else ((48 + (m + 1) % 10 : Nat) : Int) :: decF m ((m + 1) / 10) from rfl, if_neg (by omega)]
  rw [decF_fuel m ((m + 1) / 10) ((m + 1) / 10) (by omega) (Nat.le_refl _)]
def decI (v : Int) : List Int := decN v.toNat
theorem decI_zero : decI 0 = [] := rfl
theorem decI_pos {v : Int} (h : 0 < v) : decI v = (48 + v % 10) :: decI (v / 10) := by
  unfold decI
  rw [decN_pos (by omega)]
  have e1 : ((48 + v.toNat % 10 : Nat) : Int) = 48 + v % 10 := by omega
  have e2 : v.toNat / 10 = (v / 10).toNat := by omega
  rw [e1, e2]
theorem decN_length {n k : Nat} (h : n < 10 ^ k) : (decN n).length ≤ k := by
  induction k generalizing n with
  | zero =>
    obtain rfl : n = 0 := by simpa using h
    simp [decN_zero]
  | succ k ih =>
    rcases Nat.eq_zero_or_pos n with rfl | hp
    · simp [decN_zero]
    · rw [decN_pos hp, List.length_cons]
      have := ih (n := n / 10) (by rw [Nat.pow_succ] at h; omega)
      omega
theorem decI_length {xs : List Int} (dx : Dg xs) : (decI (val xs)).length ≤ 10 * xs.length := by
  apply decN_length
  have h1 := val_lt dx
  have h0 := val_nonneg dx
  have h2 : pw xs.length ≤ (10 : Int) ^ (10 * xs.length) := by
    unfold pw
    rw [Int.pow_mul]
    exact ipow_le (by omega) (by decide) _
  have h3 : ((10 ^ (10 * xs.length) : Nat) : Int) = (10 : Int) ^ (10 * xs.length) := by push_cast; rfl
  omega
/-- The text of a number. -/
def fmtS (v : Int) : ByteArray := if v = 0 then ⟨#[48]⟩ else strOfNums (decI v).reverse

/-- Division in place: the digits from k on are the quotient's. -/
structure InPlace (xs : List Int) (y : Int) (k : Nat) (s : List Int) (rest : Int) : Prop where
  len : s.length = xs.length
  dg : Dg s
  low : ∀ j, j < k → gd s j = gd xs j
  r0 : 0 ≤ rest
  r1 : rest < y
  eq : val (s.drop k) * y + rest = val (xs.drop k)
theorem InPlace.init {xs : List Int} {y : Int} (hx : Dg xs) (hy : 0 < y) : InPlace xs y xs.length xs 0 :=
  ⟨rfl, hx, fun _ _ => rfl, by omega, hy, by simp⟩
theorem InPlace.step {xs : List Int} {y : Int} {k : Nat} {s : List Int} {rest : Int} (h : InPlace xs y (k + 1) s rest) (hx : Dg xs) (hk : k < xs.length) (hy : y < 4294967296) :
    InPlace xs y k (s.set k ((rest * 4294967296 + gd s k) / y)) ((rest * 4294967296 + gd s k) % y) ∧ 0 ≤ (rest * 4294967296 + gd s k) / y ∧ (rest * 4294967296 + gd s k) / y < 4294967296 := by
  have hl := h.len
  have ha := h.low k (by omega)
  rw [ha]
  have a := hx.gd k
  have h0 := h.r0
  have h1 := h.r1
  have he := h.eq
  have hypos : 0 < y := by omega
  have t0 : 0 ≤ rest * 4294967296 + gd xs k := by omega
  have q0 : 0 ≤ (rest * 4294967296 + gd xs k) / y := Int.ediv_nonneg t0 (by omega)
  have q1 : (rest * 4294967296 + gd xs k) / y < 4294967296 := by
    apply Int.ediv_lt_of_lt_mul hypos
    omega
  refine ⟨⟨by rw [List.length_set]; exact hl, h.dg.set _ q0 q1, fun j hj => ?_, Int.emod_nonneg _ (by omega), Int.emod_lt_of_pos _ hypos, ?_⟩, q0, q1⟩
  · rw [gd_set_ne (by omega)]; exact h.low j (by omega)
  · rw [val_drop hk, val_drop (xs := s.set k _) (by rw [List.length_set]; omega), drop_set_lt (by omega), gd_set (by omega), if_pos rfl, ← he]
    have e := Int.mul_ediv_add_emod (rest * 4294967296 + gd xs k) y
    generalize (rest * 4294967296 + gd xs k) / y = q at *
    generalize (rest * 4294967296 + gd xs k) % y = r at *
    grind
theorem InPlace.final {xs : List Int} {y : Int} {s : List Int} {rest : Int} (h : InPlace xs y 0 s rest) : val s = val xs / y ∧ rest = val xs % y := by
  have he := h.eq
  have h0 := h.r0
  have h1 := h.r1
  rw [List.drop_zero, List.drop_zero] at he
  have e1 : val xs / y = val s := by
    rw [← he, Int.mul_comm, Int.add_comm, Int.add_mul_ediv_left _ _ (by omega), Int.ediv_eq_zero_of_lt h0 h1]; omega
  have e2 : val xs % y = rest := by
    rw [← he, Int.mul_comm, Int.add_comm, Int.add_mul_emod_self_left, Int.emod_eq_of_lt h0 h1]
  exact ⟨e1.symm, e2.symm⟩

/-- The letters that are written, and the number whose letters are still to come. -/
structure Wrote (V X : Int) (k : Nat) (rest : Int) (text : List Int) : Prop where
  x0 : 0 ≤ X
  r0 : 0 ≤ rest
  r1 : rest < (10 : Int) ^ (9 - k)
  eq : text ++ decI (X * (10 : Int) ^ (9 - k) + rest) = decI V
theorem Wrote.start {V Y : Int} {text : List Int} (h0 : 0 ≤ Y) (h : text ++ decI Y = decI V) : Wrote V (Y / 1000000000) 0 (Y % 1000000000) text := by
  have e : (10 : Int) ^ (9 - 0) = 1000000000 := by decide
  refine ⟨by omega, by omega, by rw [e]; omega, ?_⟩
  rw [e, show Y / 1000000000 * 1000000000 + Y % 1000000000 = Y from by omega]
  exact h
theorem Wrote.step {V X : Int} {k : Nat} {rest : Int} {text : List Int} (h : Wrote V X k rest text) (hk : k < 9) (hp : 0 < X ∨ 0 < rest) : Wrote V X (k + 1) (rest / 10) (text ++ [48 + rest % 10]) := by
  have hx := h.x0
  have hr0 := h.r0
  have hr1 := h.r1
  have he := h.eq
  obtain ⟨p, hpd⟩ : ∃ p, p = (10 : Int) ^ (9 - (k + 1)) := ⟨_, rfl⟩
  have hp1 : 0 < p := by rw [hpd]; exact Int.pow_pos (by omega)
  have e10 : (10 : Int) ^ (9 - k) = p * 10 := by
    rw [show 9 - k = (9 - (k + 1)) + 1 from by omega, Int.pow_succ, hpd]
  rw [e10] at hr1 he
  have hxp : 0 ≤ X * p := Int.mul_nonneg hx (by omega)
  have en : X * (p * 10) + rest = 10 * (X * p) + rest := by grind
  rw [en] at he
  have hpos : 0 < 10 * (X * p) + rest := by
    rcases hp with hp | hp
    · have : 0 < X * p := Int.mul_pos hp hp1
      omega
    · omega
  rw [decI_pos hpos, show (10 * (X * p) + rest) % 10 = rest % 10 from by omega, show (10 * (X * p) + rest) / 10 = X * p + rest / 10 from by omega] at he
  refine ⟨hx, by omega, by rw [← hpd]; omega, ?_⟩
  rw [← hpd, List.append_assoc]
  exact he
theorem Wrote.stop {V X : Int} {k : Nat} {rest : Int} {text : List Int} (h : Wrote V X k rest text) (hs : 9 ≤ k ∨ X = 0 ∧ rest = 0) : text ++ decI X = decI V := by
  have he := h.eq
  rcases hs with hs | ⟨rfl, rfl⟩
  · have hr0 := h.r0
    have hr1 := h.r1
    rw [show 9 - k = 0 from by omega, Int.pow_zero] at hr1 he
    rw [show X * 1 + rest = X from by omega] at he
    exact he
  · simpa using he
theorem Wrote.length {V X : Int} {k : Nat} {rest : Int} {text : List Int} {L : Nat} (h : Wrote V X k rest text) (hL : (decI V).length ≤ L) : text.length ≤ L := by
  have := congrArg List.length h.eq
  simp at this
  omega
theorem OwnB.below {w w1 : World} {base c : Nat} {A : Option Addr} {s : List Int} (h : OwnB w base A c s) (hb : Below w.heap.size w w1) : OwnB w1 base A c s :=
  ⟨pw_own_below h.own hb⟩
theorem OwnB.alloc {w : World} {base c : Nat} {A : Option Addr} {s : List Int} (h : OwnB w base A c s) (o : Obj) : OwnB (w.alloc o) base A c s := ⟨h.own.alloc o⟩
/-- A store into a list of digits leaves the bytes alone: their blocks' types differ. -/
theorem OwnB.set_digit {w : World} {base base' c c' g : Nat} {A : Option Addr} {s t : List Int} (h : OwnB w base A c s) (h' : Own w base' (some ⟨g, 0, none⟩) c' t) (o : Nat) (u : Value) : OwnB (w.setCell ⟨g, o, none⟩ u) base A c s := by
  refine ⟨own_setCell h.own ?_ u⟩
  intro e
  rcases own_type_ne h.own h'.own (by decide) with h1 | h1
  · rw [h1] at e; cases e
  · exact h1 (by rw [← e]; rfl)
/-- What is appended to bytes leaves the lists of digits alone. -/
theorem Own.grown_bytes {w w1 : World} {base base' c c' : Nat} {A A' : Option Addr} {s t : List Int} (h : Own w base A c s) (h' : OwnB w base' A' c' t) (hg : w.grownBy w1 (Value.slice A' t.length c').ownBlock) : Own w1 base A c s :=
  ⟨h.own.kept hg (own_type_ne h.own h'.own (by decide)), h.small⟩

set_option maxRecDepth 100000 in
set_option maxHeartbeats 1000000 in
theorem format_calls (A : Option Addr) (c l : Nat) (xs : List Int) (w : World) (hx : Rd w A c xs) (hl : l = xs.length) (dx : Dg xs) (lx : xs.length ≤ 1000) :
    Calls Try.prog 60 #[.slice A l c] w fun e w' => e = .returned (.string (fmtS (val xs))) ∧ Below w.heap.size w w' := by
  subst hl
  have h0 := val_nonneg dx
  have KT := Lib.hid (trim_calls A c _ xs w hx rfl dx)
  have hdl := decI_length dx
  have hcl : (canon (val xs)).length ≤ 1000 := by
    have := canon_length_le h0 (val_lt dx)
    omega
  clear hx dx
  generalize val xs = V at *
  have hdl' : (decI V).length ≤ 10000 := by omega
  clear hdl
  by_cases hz : V = 0
  · have hr : fmtS V = ⟨#[48]⟩ := by rw [hz]; rfl
    have hc : (canon V).length = 0 := by rw [hz, canon_zero]; rfl
    have hb : (((canon V).length : Int) == 0) = true := by rw [hc]; rfl
    have HR := Lib.hid hr
    clear hr hc hz
    go_enter Try.func60, Try.ntmps60
    go_wp2_with fail
    refine KT.out.mono ?_
    rintro e w1 ⟨R, k, rfl, hO, hB⟩
    go_wp2_with fail
    go_ret
    exact ⟨by rw [HR.out]; rfl, hB⟩
  · have hVp : 0 < V := by omega
    have hc1 : 1 ≤ (canon V).length := canon_nonempty (by omega)
    have hb : (((canon V).length : Int) == 0) = false := by simp; intro he; rw [he] at hc1; simp at hc1
    have HVP := Lib.hid hVp
    have HZ := Lib.hid hz
    clear hz
    go_enter Try.func60, Try.ntmps60
    go_wp2_with fail
    refine KT.out.mono ?_
    rintro e w1 ⟨R1, k1, rfl, hO, hB⟩
    have HO1 := Lib.hid hO
    have HB1 := Lib.hid hB
    clear hO hB
    go_wp2_with fail
    go_loopg [3, 4] (V.toNat + 1) (fun kq v3 v4 wr => ∃ (R T : Option Addr) (kr kt : Nat) (X : Int) (text : List Int), v3 = .slice R (canon X).length kr ∧ v4 = .slice T text.length kt ∧ 0 ≤ X ∧ (canon X).length ≤ 1000 ∧ Hid (X.toNat < kq) ∧ Hid (text ++ decI X = decI V) ∧ Hid (Own wr w.heap.size R kr (canon X)) ∧ Hid (OwnB wr w.heap.size T kt text) ∧ Hid (Below w.heap.size w wr))
    case atStart => exact ⟨R1, none, k1, 0, V, [], rfl, rfl, h0, hcl, Nat.lt_succ_self _, rfl, HO1, OwnB.nil _ _, HB1⟩
    case round =>
      clear HO1 HB1
      obtain ⟨R, T, kr, kt, X, text, rfl, rfl, hX0, hXl, HKQ, HE, HO, HT, HB⟩ := hrel
      obtain ⟨gk', rfl⟩ : ∃ gk', gk = gk' + 1 := ⟨gk - 1, by have := HKQ.out; omega⟩
      by_cases hxz : X = 0
      · have hcx : (canon X).length = 0 := by rw [hxz, canon_zero]; rfl
        have hbx : decide (0 < (canon X).length) = false := by rw [hcx]; rfl
        have he : text = decI V := by have := HE.out; rwa [hxz, decI_zero, List.append_nil] at this
        have HE' := Lib.hid he
        have htl : text.length ≤ 10000 := by rw [he]; exact hdl'
        clear hcx hxz he
        go_wp2_with fail
        refine (rev_calls w.heap.size kt _ T text _ HT.out rfl (by omega)).mono ?_
        rintro e w2 ⟨rfl, hT2, hg2⟩
        have hstr := own_string (P := Try.prog) (w := w2) (src := 115) (dst := 9) Try.underlying115 Try.underlying5 Try.underlying9 hT2.own
        have hfin : strOfNums text.reverse = fmtS V := by unfold fmtS; rw [if_neg HZ.out, HE'.out]
        rw [hfin, List.length_reverse] at hstr
        have HFB := Lib.hid (HB.out.grown hg2 HB.out.size (own_base HT.out.own))
        clear hfin hT2 hg2
        go_wp2_with fail
        go_ret
        exact ⟨rfl, HFB.out⟩
      · have hcx1 : 1 ≤ (canon X).length := canon_nonempty (by omega)
        have hbx : decide (0 < (canon X).length) = true := by simp; omega
        have hxp : 0 < X := by omega
        have HXP := Lib.hid hxp
        clear hxz hxp
        obtain ⟨g, rfl, hg0, hg1⟩ := HO.out.form (by omega)
        go_wp2_with fail
        go_loopw [5, 6] (fun v5 v6 wz => ∃ (k : Nat) (j : Int) (s : List Int) (rest : Int), v5 = .int .u64 rest ∧ v6 = .int .i64 j ∧ j + 1 = k ∧ k ≤ (canon X).length ∧ 0 ≤ rest ∧ rest < 1000000000 ∧ Hid (InPlace (canon X) 1000000000 k s rest) ∧ Hid (Own wz w.heap.size (some ⟨g, 0, none⟩) kr s) ∧ Hid (OwnB wz w.heap.size T kt text) ∧ Hid (Below w.heap.size w wz)) (fun _ v _ => (intOf v + 1).toNat)
        case atStart => exact ⟨(canon X).length, _, canon X, 0, rfl, rfl, by omega, Nat.le_refl _, by omega, by omega, InPlace.init (canon_dg _) (by omega), HO, HT, HB⟩
        case round =>
          clear HO HT HB
          obtain ⟨k, j, s, rest, rfl, rfl, hj, hk, hr0, hr1, HI, HO, HT, HB⟩ := hrel
          cases k with
          | zero =>
            obtain rfl : j = -1 := by omega
            obtain ⟨hfq, hfr⟩ := HI.out.final
            rw [canon_val hX0] at hfq hfr
            have hcu := cutL_canon HI.out.dg
            rw [hfq] at hcu
            have hw0 := Wrote.start hX0 HE.out
            rw [← hfr] at hw0
            have hq0 : 0 ≤ X / 1000000000 := by omega
            have hql : (canon (X / 1000000000)).length ≤ 1000 := by
              have h1 := canon_length_le (n := X / 1000000000) (L := (canon X).length) hq0 (by have := val_lt (canon_dg X); rw [canon_val hX0] at this; omega)
              omega
            have hqlt : (X / 1000000000).toNat < X.toNat := by have := HXP.out; omega
            have HQL := Lib.hid hqlt
            have HW0 := Lib.hid hw0
            have HCU := Lib.hid hcu
            have KC := Lib.hid (cut_l (some ⟨g, 0, none⟩) kr (canon X).length s wr HO.out.rd HI.out.len.symm)
            have ho := HO.out.cutL'
            rw [hcu] at ho
            have HO' := Lib.hid ho
            rw [hcu] at KC
            clear hfq hfr hcu hw0 ho hqlt HO HCU
            obtain ⟨Y, hY⟩ : ∃ Y, Y = X / 1000000000 := ⟨_, rfl⟩
            rw [← hY] at hq0 hql HQL HW0 HO' KC
            clear hY
            go_wp2_with fail
            refine KC.out.mono ?_
            rintro e w2 ⟨rfl, rfl⟩
            go_wp2_with fail
            go_loopw [4, 5, 8] (fun v4 v5 v8 wz => ∃ (T : Option Addr) (kt k : Nat) (text : List Int) (rest : Int), v4 = .slice T text.length kt ∧ v5 = .int .u64 rest ∧ v8 = .int .i64 k ∧ k ≤ 9 ∧ 0 ≤ rest ∧ rest < 1000000000 ∧ Hid (Wrote V Y k rest text) ∧ Hid (Own wz w.heap.size (some ⟨g, 0, none⟩) kr (canon Y)) ∧ Hid (OwnB wz w.heap.size T kt text) ∧ Hid (Below w.heap.size w wz)) (fun _ _ v _ => 9 - (intOf v).toNat)
            case atStart => exact ⟨T, kt, 0, text, rest, rfl, rfl, rfl, by omega, hr0, hr1, HW0, HO', HT, HB⟩
            case round =>
              clear HW0 HO' HT HB HE
              obtain ⟨T, kt, k, text, rest, rfl, rfl, rfl, hk9, hr0, hr1, HW, HO, HT, HB⟩ := hrel
              by_cases hk : k < 9
              · by_cases hp : 0 < Y ∨ 0 < rest
                · have hw := HW.out.step hk hp
                  have htl := HW.out.length hdl'
                  have HWS := Lib.hid hw
                  have HTL := Lib.hid htl
                  clear hw htl
                  by_cases hY0 : Y = 0
                  · have hbl : decide (0 < (canon Y).length) = false := by rw [hY0, canon_zero]; rfl
                    have hbr : decide (0 < rest) = true := by simp; omega
                    clear hp hY0
                    go_wp2_with (at_builtin; refine print_append_num w.heap.size rfl (.tmp 55) (.tmp 60) 115 5 .u8 1 rfl Try.underlying115 info5 (by decide) _ text _ rfl rfl HT.out.own HB.out HB.out.size (by have := HTL.out; omega) ?_; intro v1 w3 ho3 hb3 hg3 _)
                    obtain ⟨T2, k2, rfl⟩ := own_slice ho3
                    go_roundw
                    case rel => exact ⟨T2, k2, k + 1, _, _, rfl, rfl, by go_num, by omega, by omega, by omega, HWS, HO.out.grown_bytes HT.out hg3, ⟨ho3⟩, hb3⟩
                    case measure => simp [intOf]; omega
                  · have hbl : decide (0 < (canon Y).length) = true := by simp; exact canon_nonempty (by omega)
                    clear hp hY0
                    go_wp2_with (at_builtin; refine print_append_num w.heap.size rfl (.tmp 55) (.tmp 60) 115 5 .u8 1 rfl Try.underlying115 info5 (by decide) _ text _ rfl rfl HT.out.own HB.out HB.out.size (by have := HTL.out; omega) ?_; intro v1 w3 ho3 hb3 hg3 _)
                    obtain ⟨T2, k2, rfl⟩ := own_slice ho3
                    go_roundw
                    case rel => exact ⟨T2, k2, k + 1, _, _, rfl, rfl, by go_num, by omega, by omega, by omega, HWS, HO.out.grown_bytes HT.out hg3, ⟨ho3⟩, hb3⟩
                    case measure => simp [intOf]; omega
                · have hY0 : Y = 0 := by omega
                  have hr00 : rest = 0 := by omega
                  have hbl : decide (0 < (canon Y).length) = false := by rw [hY0, canon_zero]; rfl
                  have hbr : decide (0 < rest) = false := by rw [hr00]; rfl
                  have HST := Lib.hid (HW.out.stop (.inr ⟨hY0, hr00⟩))
                  clear hp hY0 hr00
                  clear HI
                  go_wp2_with fail
                  go_roundg gk'
                  case measure => omega
                  case rel => exact ⟨_, T, kr, kt, Y, text, rfl, rfl, hq0, hql, by show _ < _; have := HQL.out; have := HKQ.out; omega, HST.out, HO, HT, HB⟩
              · have hb9 : decide ((k : Int) < 9) = false := by simp; omega
                have HST := Lib.hid (HW.out.stop (.inl (by omega)))
                clear HI
                go_wp2_with fail
                go_roundg gk'
                case measure => omega
                case rel => exact ⟨_, T, kr, kt, Y, text, rfl, rfl, hq0, hql, by show _ < _; have := HQL.out; have := HKQ.out; omega, HST.out, HO, HT, HB⟩
          | succ k =>
            obtain rfl : j = (k : Int) := by omega
            clear hj
            have ha := HI.out.dg.gd k
            have hc := HO.out.cell k (by have := HI.out.len; omega)
            have hf := HO.out.frozen k
            have hor := or_join64 (a := rest * 4294967296) (b := gd s k) (k := 32) (by omega) (by omega) (by omega) (by omega) (by omega) (Int.mul_emod_left _ _)
            obtain ⟨hs, q0, q1⟩ := HI.out.step (canon_dg X) (by omega) (by omega)
            have HS := Lib.hid hs
            clear hs
            go_wp2
            go_roundw
            case rel => exact ⟨k, _, _, _, rfl, rfl, by omega, by omega, by omega, by omega, HS, HO.out.set k _, HT.out.set_digit HO.out _ _, HB.out.setCell (by simp; omega) _⟩
            case measure => simp [intOf]
end Go.Proofs.Ytcmiciloiicfoaa
