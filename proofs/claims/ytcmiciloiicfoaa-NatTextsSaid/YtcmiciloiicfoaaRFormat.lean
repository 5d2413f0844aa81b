/- dspcompilerref01.Format: a number's decimal digits, by strings. -/
import Derived.Test.YtcmiciloiicfoaaRSmall
namespace Go.Proofs.Ytcmiciloiicfoaa
open Go.RowKit Go.Proofs.YtcmiciloiicfoaaW.PrintWords

theorem strOfNums_append (xs ys : List Int) : strOfNums xs ++ strOfNums ys = strOfNums (xs ++ ys) := by
  unfold strOfNums
  rw [List.map_append]
  exact ByteArray.mk_append_mk _ _
theorem strOfNums_push (pt : List Int) (x : Int) : strOfNums [x] ++ strOfNums pt.reverse = strOfNums (pt ++ [x]).reverse := by
  rw [strOfNums_append, List.reverse_append]; rfl
theorem strOfNums_join (text pt : List Int) : strOfNums pt.reverse ++ strOfNums text.reverse = strOfNums (text ++ pt).reverse := by
  rw [strOfNums_append, List.reverse_append]
theorem strOfNums_size (xs : List Int) : (strOfNums xs).size = xs.length := by
  unfold strOfNums ByteArray.size
  simp
theorem sop_add {a b c : ByteArray} (h : a ++ b = c) (hs : a.size + b.size ≤ 9223372036854775807) : Op.stringOp .add a b = pure (.string c) := by
  unfold Op.stringOp
  have : ¬ (((a.size + b.size : Nat) : Int) > IntKind.i64.max) := by
    have e : IntKind.i64.max = 9223372036854775807 := by decide
    rw [e]; omega
  simp only [this, if_false, h]
theorem sop_push (pt : List Int) (x : Int) (h : pt.length ≤ 100000) : Op.stringOp .add (strOfNums [x]) (strOfNums pt.reverse) = pure (.string (strOfNums (pt ++ [x]).reverse)) :=
  sop_add (strOfNums_push pt x) (by rw [strOfNums_size, strOfNums_size, List.length_reverse]; simp; omega)
theorem sop_join (text pt : List Int) (h : (text ++ pt).length ≤ 100000) : Op.stringOp .add (strOfNums pt.reverse) (strOfNums text.reverse) = pure (.string (strOfNums (text ++ pt).reverse)) :=
  sop_add (strOfNums_join text pt) (by rw [strOfNums_size, strOfNums_size, List.length_reverse, List.length_reverse]; simp at h; omega)
theorem lit8_string (W : World) (x : Int) : (convert 115 9 (.slice (some ⟨W.heap.size, 0, none⟩) 1 1)).run Try.prog (W.alloc (.cells #[.int .u8 x] 5)) = .ok (.string (strOfNums [x])) (W.alloc (.cells #[.int .u8 x] 5)) := by
  have h := World.ownsRow_lit (base := 0) (e := 5) (size := 1) W #[.int .u8 x] 1 (Nat.zero_le _) (by unfold maxLen; omega) (by simp)
  exact own_string (P := Try.prog) (xs := [x]) Try.underlying115 Try.underlying5 Try.underlying9 (by simpa [nums] using h)

set_option maxRecDepth 100000 in
set_option maxHeartbeats 1000000 in
theorem rformat_calls (A : Option Addr) (c l : Nat) (xs : List Int) (w : World) (hx : Rd w A c xs) (hl : l = xs.length) (dx : Dg xs) (lx : xs.length ≤ 1000) :
    Calls Try.prog 61 #[.slice A l c] w fun e w' => e = .returned (.string (fmtS (val xs))) ∧ Below w.heap.size w w' := by
  subst hl
  have h0 := val_nonneg dx
  have KT := Lib.hid (rtrim_calls A c _ xs w hx rfl)
  rw [cutL_canon dx] at KT
  have hdl := decI_length dx
  have hcl : (canon (val xs)).length ≤ 1000 := by
    have := canon_length_le h0 (val_lt dx)
    omega
  clear hx dx
  generalize val xs = V at *
  have hdl' : (decI V).length ≤ 10000 := by omega
  clear hdl
  by_cases hz : V = 0
  · have hr : fmtS V = ⟨#[48]⟩ := by rw [hz]; rfl
    have hc : (canon V).length = 0 := by rw [hz, canon_zero]; rfl
    have hb : (((canon V).length : Int) == 0) = true := by rw [hc]; rfl
    have HR := Lib.hid hr
    clear hr hc hz
    go_enter Try.func61, Try.ntmps61
    go_wp2_with fail
    refine KT.out.mono ?_
    rintro e w1 ⟨R, k, rfl, hO, hB⟩
    go_wp2_with fail
    go_ret
    exact ⟨by rw [HR.out]; rfl, hB⟩
  · have hVp : 0 < V := by omega
    have hc1 : 1 ≤ (canon V).length := canon_nonempty (by omega)
    have hb : (((canon V).length : Int) == 0) = false := by simp; intro he; rw [he] at hc1; simp at hc1
    have HVP := Lib.hid hVp
    have HZ := Lib.hid hz
    clear hz
    go_enter Try.func61, Try.ntmps61
    go_wp2_with fail
    refine KT.out.mono ?_
    rintro e w1 ⟨R1, k1, rfl, hO, hB⟩
    have HR1 := Lib.hid hO.rd
    have HB1 := Lib.hid hB
    clear hO hB
    go_wp2_with fail
    go_loopg [0, 3] (V.toNat + 1) (fun kq v0 v3 wr => ∃ (R : Option Addr) (kr : Nat) (X : Int) (text : List Int), v0 = .slice R (canon X).length kr ∧ v3 = .string (strOfNums text.reverse) ∧ 0 ≤ X ∧ (canon X).length ≤ 1000 ∧ Hid (X.toNat < kq) ∧ Hid (text ++ decI X = decI V) ∧ Hid (Rd wr R kr (canon X)) ∧ Hid (Below w.heap.size w wr))
    case atStart => exact ⟨R1, k1, V, [], rfl, rfl, h0, hcl, Nat.lt_succ_self _, rfl, HR1, HB1⟩
    case round =>
      clear HR1 HB1
      obtain ⟨R, kr, X, text, rfl, rfl, hX0, hXl, HKQ, HE, HR, HB⟩ := hrel
      obtain ⟨gk', rfl⟩ : ∃ gk', gk = gk' + 1 := ⟨gk - 1, by have := HKQ.out; omega⟩
      obtain ⟨wo, rfl⟩ : ∃ wo : World, wo = wr := ⟨_, rfl⟩
      by_cases hxz : X = 0
      · have hcx : (canon X).length = 0 := by rw [hxz, canon_zero]; rfl
        have hbx : decide (0 < (canon X).length) = false := by rw [hcx]; rfl
        have he : text = decI V := by have := HE.out; rwa [hxz, decI_zero, List.append_nil] at this
        have hfin : strOfNums text.reverse = fmtS V := by unfold fmtS; rw [if_neg HZ.out, he]
        have HF := Lib.hid hfin
        clear hcx hxz he hfin
        go_wp2_with fail
        go_ret
        exact ⟨by rw [HF.out]; rfl, HB.out⟩
      · have hcx1 : 1 ≤ (canon X).length := canon_nonempty (by omega)
        have hbx : decide (0 < (canon X).length) = true := by simp; omega
        have hxp : 0 < X := by omega
        have hw0 := Wrote.start hX0 HE.out
        have hq0 : 0 ≤ X / 1000000000 := by omega
        have hql : (canon (X / 1000000000)).length ≤ 1000 := by
          have h1 := canon_length_le (n := X / 1000000000) (L := (canon X).length) hq0 (by have := val_lt (canon_dg X); rw [canon_val hX0] at this; omega)
          omega
        have hqlt : (X / 1000000000).toNat < X.toNat := by omega
        have hr0 : 0 ≤ X % 1000000000 := by omega
        have hr1 : X % 1000000000 < 1000000000 := by omega
        have KS := Lib.hid (rsmall_calls R kr _ 1000000000 (canon X) wo HR.out rfl (canon_dg X) (by omega) (by omega) (by omega))
        rw [canon_val hX0] at KS
        have HQL := Lib.hid hqlt
        have HW0 := Lib.hid hw0
        clear hxz hxp hw0 hqlt
        obtain ⟨Y, hY⟩ : ∃ Y, Y = X / 1000000000 := ⟨_, rfl⟩
        obtain ⟨r, hr⟩ : ∃ r, r = X % 1000000000 := ⟨_, rfl⟩
        rw [← hY] at hq0 hql HQL HW0 KS
        rw [← hr] at hr0 hr1 HW0 KS
        clear hY hr
        go_wp2_with fail
        refine KS.out.mono ?_
        rintro e w2 ⟨Q, kqq, rfl, hQ, hB⟩
        have HQ2 := Lib.hid hQ.rd
        have HB2 := Lib.hid (below_then HB.out HB.out.size hB)
        clear hQ hB HR HB KS
        go_wp2_with fail
        go_loopw [5, 6, 7] (fun v5 v6 v7 wz => ∃ (k : Nat) (pt : List Int) (rest : Int), v5 = .int .u32 rest ∧ v6 = .string (strOfNums pt.reverse) ∧ v7 = .int .i64 k ∧ k ≤ 9 ∧ 0 ≤ rest ∧ rest < 1000000000 ∧ Hid (Wrote V Y k rest (text ++ pt)) ∧ Hid (Rd wz Q kqq (canon Y)) ∧ Hid (Below w.heap.size w wz)) (fun _ _ v _ => 9 - (intOf v).toNat)
        case atStart => exact ⟨0, [], r, rfl, rfl, rfl, by omega, hr0, hr1, by rw [List.append_nil]; exact HW0, HQ2, HB2⟩
        case round =>
          clear HW0 HQ2 HB2 HE
          obtain ⟨k, pt, rest, rfl, rfl, rfl, hk9, hr0, hr1, HW, HR, HB⟩ := hrel
          by_cases hk : k < 9
          · by_cases hp : 0 < Y ∨ 0 < rest
            · have hw := HW.out.step hk hp
              rw [List.append_assoc] at hw
              have HWS := Lib.hid hw
              have hstr := lit8_string wr (48 + rest % 10)
              have htl := HW.out.length hdl'
              have hpush := sop_push pt (48 + rest % 10) (by simp at htl; omega)
              clear htl
              clear hw
              by_cases hr2 : 0 < rest
              · have hbr : decide (0 < rest) = true := by simp; omega
                clear hp hr2
                go_wp2_with fail
                go_roundw
                case rel => exact ⟨k + 1, pt ++ [48 + rest % 10], _, rfl, by simp, by go_num, by omega, by omega, by omega, HWS, HR.out.alloc _, HB.out.alloc HB.out.size _⟩
                case measure => simp [intOf]; omega
              · have hbl : decide (0 < (canon Y).length) = true := by simp; exact canon_nonempty (by omega)
                have hbr : decide (0 < rest) = false := by simp; omega
                clear hp hr2
                go_wp2_with fail
                go_roundw
                case rel => exact ⟨k + 1, pt ++ [48 + rest % 10], _, rfl, by simp, by go_num, by omega, by omega, by omega, HWS, HR.out.alloc _, HB.out.alloc HB.out.size _⟩
                case measure => simp [intOf]; omega
            · have hY0 : Y = 0 := by omega
              have hr00 : rest = 0 := by omega
              have hbl : decide (0 < (canon Y).length) = false := by rw [hY0, canon_zero]; rfl
              have hbr : decide (0 < rest) = false := by rw [hr00]; rfl
              have HST := Lib.hid (HW.out.stop (.inr ⟨hY0, hr00⟩))
              have hjoin := sop_join text pt (by have := HW.out.length hdl'; omega)
              clear hp hY0 hr00
              go_wp2_with fail
              go_roundg gk'
              case measure => omega
              case rel => exact ⟨_, _, Y, text ++ pt, rfl, by simp, hq0, hql, by show _ < _; have := HQL.out; have := HKQ.out; omega, HST.out, HR, HB⟩
          · have hb9 : decide ((k : Int) < 9) = false := by simp; omega
            have HST := Lib.hid (HW.out.stop (.inl (by omega)))
            have hjoin := sop_join text pt (by have := HW.out.length hdl'; omega)
            go_wp2_with fail
            go_roundg gk'
            case measure => omega
            case rel => exact ⟨_, _, Y, text ++ pt, rfl, by simp, hq0, hql, by show _ < _; have := HQL.out; have := HKQ.out; omega, HST.out, HR, HB⟩
end Go.Proofs.Ytcmiciloiicfoaa
