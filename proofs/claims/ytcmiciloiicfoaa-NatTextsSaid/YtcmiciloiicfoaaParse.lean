/- nat.Parse: nine letters at a time. -/
import Derived.Test.YtcmiciloiicfoaaRParse
namespace Go.Proofs.Ytcmiciloiicfoaa
open Go.RowKit Go.Proofs.YtcmiciloiicfoaaW.PrintWords

theorem dvL_append (xs ys : List Int) : dvL (xs ++ ys) = dvL xs * (10 : Int) ^ ys.length + dvL ys := by
  have key : ∀ (zs : List Int) (xs : List Int), dvL (xs ++ zs.reverse) = dvL xs * (10 : Int) ^ zs.length + dvL zs.reverse := by
    intro zs
    induction zs with
    | nil => intro xs; simp [dvL]
    | cons d zs ih =>
      intro xs
      rw [List.reverse_cons, ← List.append_assoc, dvL_snoc, dvL_snoc, ih, List.length_cons, Int.pow_succ]
      grind
  have := key ys.reverse xs
  rwa [List.reverse_reverse, List.length_reverse] at this
/-- A part of at most nine letters. -/
structure Part (l : List Int) (c : Nat) (D S : Int) : Prop where
  all : ∀ j, j < c → 48 ≤ gd l j ∧ gd l j ≤ 57
  eq : D = dvL (l.take c)
  s : S = (10 : Int) ^ c
  d0 : 0 ≤ D
  d1 : D < S
theorem Part.init (l : List Int) : Part l 0 0 1 := ⟨fun j h => by omega, by simp [dvL], by simp, by omega, by omega⟩
theorem Part.step {l : List Int} {c : Nat} {D S : Int} (h : Part l c D S) (hc : c < l.length) (h0 : 48 ≤ gd l c) (h1 : gd l c ≤ 57) : Part l (c + 1) (D * 10 + (gd l c - 48)) (S * 10) := by
  have := h.d0
  have := h.d1
  refine ⟨fun j hj => ?_, by rw [dvL_take_succ hc, h.eq], by rw [h.s, Int.pow_succ], by omega, by omega⟩
  by_cases e : j = c
  · subst e; exact ⟨h0, h1⟩
  · exact h.all j (by omega)
theorem Part.bound {l : List Int} {c : Nat} {D S : Int} (h : Part l c D S) (hc : c ≤ 9) : 1 ≤ S ∧ S ≤ 1000000000 ∧ (c < 9 → S ≤ 100000000) := by
  have e := h.s
  have key : ∀ c : Nat, c ≤ 9 → 1 ≤ (10 : Int) ^ c ∧ (10 : Int) ^ c ≤ 1000000000 ∧ (c < 9 → (10 : Int) ^ c ≤ 100000000) := by decide
  rw [e]; exact key c hc
theorem Sofar.part {l : List Int} {p c : Nat} {V D S : Int} (h : Sofar l p V) (k : Part (l.drop p) c D S) (hc : p + c ≤ l.length) (h9 : c ≤ 9) : Sofar l (p + c) (V * S + D) := by
  have v0 := h.v0
  have v1 := h.v1
  have d0 := k.d0
  have d1 := k.d1
  have hlen : ((l.drop p).take c).length = c := by rw [List.length_take, List.length_drop]; omega
  have hS : 0 ≤ S := by omega
  refine ⟨fun j hj => ?_, ?_, ?_, ?_⟩
  · by_cases e : j < p
    · exact h.all j e
    · have := k.all (j - p) (by omega)
      rwa [gd_drop, show p + (j - p) = j from by omega] at this
  · have e : l.take (p + c) = l.take p ++ (l.drop p).take c := by rw [List.take_add]
    rw [e, dvL_append, hlen, ← h.eq, ← k.eq, ← k.s]
  · have := Int.mul_nonneg v0 hS; omega
  · have h1 : (V + 1) * S ≤ pw p * S := Int.mul_le_mul_of_nonneg_right (by omega) hS
    have h2 : S ≤ pw c := by
      rw [k.s]; unfold pw
      exact ipow_le (by omega) (by omega) c
    have h3 : pw p * S ≤ pw p * pw c := Int.mul_le_mul_of_nonneg_left h2 (Int.le_of_lt (pw_pos p))
    rw [pw_add]
    have h4 : (V + 1) * S = V * S + S := by grind
    omega
theorem sub_run (s : ByteArray) (q : Nat) (h : q ≤ s.size) : ∀ W : World, (Instr.slice 9 (.string s) (some (.int .i64 (q : Int))) none none).run Try.prog W = .ok (.string (s.extract q s.size)) W := by
  intro W
  have := run_slice_string_l (P := Try.prog) W 9 s Try.underlying9 .i64 (q : Int) (by omega) (by omega)
  rw [this, Int.toNat_natCast]
theorem beq_empty {s : ByteArray} (h : s.size ≠ 0) : (s.toList == []) = false := by
  rw [ByteArray.toList_eq]
  have hl : s.data.toList.length ≠ 0 := by rw [Array.length_toList]; exact h
  cases e : s.data.toList with
  | nil => rw [e] at hl; simp at hl
  | cons a b => rfl

theorem chainC {w wo wm wa : World} {o1 o2 : Obj} (hb : Below w.heap.size w wo) (h1 : Below (wo.alloc o1).heap.size (wo.alloc o1) wm) (h2 : Below (wm.alloc o2).heap.size (wm.alloc o2) wa) : Below w.heap.size w wa ∧ w.heap.size ≤ (wm.alloc o2).heap.size := by
  have h3 := hb.alloc hb.size o1
  have h4 := below_then h3 h3.size h1
  have h5 := h4.alloc h4.size o2
  exact ⟨below_then h5 h5.size h2, h5.size⟩

set_option maxRecDepth 100000 in
set_option maxHeartbeats 1000000 in
theorem parse_calls (s : ByteArray) (w : World) (hs : s.size ≤ 4096) : Calls Try.prog 58 #[.string s] w (ParseOut w (chs s)) := by
  have hcl := chs_length s
  have HCL := Lib.hid hcl
  clear hcl
  by_cases h0 : s.size = 0
  · obtain rfl : s = ⟨#[]⟩ := by
      obtain ⟨⟨l⟩⟩ := s
      have : l = [] := List.length_eq_zero_iff.1 (by simpa [ByteArray.size] using h0)
      rw [this]
    have HN : ¬ Good (chs ⟨#[]⟩) := fun h => by have := h.pos; simp [chs] at this
    have HN' := Lib.hid HN
    clear h0 HN
    go_enter Try.func58, Try.ntmps58
    go_wp2_with fail
    go_step3
    go_wp2_with fail
    try rw [Exit.noGoto_ret]
    go_ret2
    exact ParseOut.bad HN'.out (Below.refl _ _)
  · have hb := beq_empty h0
    have hidx : ∀ W : World, (Instr.index 9 (.string s) (.int .i64 0)).run Try.prog W = .ok (.int .u8 (gd (chs s) 0)) W := idx_run s 0 (by omega)
    have hc0 := chs_range s 0
    by_cases hl : 1 < s.size ∧ gd (chs s) 0 = 48
    · obtain ⟨hl1, hl2⟩ := hl
      have hb1 : decide (1 < s.size) = true := by simp [hl1]
      have hb2 : (gd (chs s) 0 == 48) = true := by simp [hl2]
      have HN : ¬ Good (chs s) := fun h => h.lead ⟨by rw [HCL.out]; exact hl1, hl2⟩
      have HN' := Lib.hid HN
      clear h0 HN hl2
      go_enter Try.func58, Try.ntmps58
      go_wp2_with fail
      go_step3
      go_wp2_with fail
      try rw [Exit.noGoto_ret]
      go_ret2
      exact ParseOut.bad HN'.out (Below.refl _ _)
    · have HL := Lib.hid hl
      clear hl
      go_enter Try.func58, Try.ntmps58
      go_wp2_with fail
      go_step3
      go_upto_region 3 with fail
      go_cut [23] (fun v23 wc => v23 = .bool false ∧ w = wc)
      case first =>
        by_cases h1 : 1 < s.size
        · have hb1 : decide (1 < s.size) = true := by simp [h1]
          have hb2 : (gd (chs s) 0 == 48) = false := by rw [beq_eq_false_iff_ne]; exact fun e => HL.out ⟨h1, e⟩
          go_wp2_with fail
          go_meet
          exact ⟨rfl, rfl⟩
        · have hb1 : decide (1 < s.size) = false := by simp; omega
          have hb1' : decide ((1 : Int) < (s.size : Int)) = false := by simp; omega
          by_cases hb2 : (gd (chs s) 0 == 48) = true
          · go_wp2_with fail
            go_meet
            exact ⟨rfl, rfl⟩
          · have hb3 : (gd (chs s) 0 == 48) = false := by simpa using hb2
            go_wp2_with fail
            go_meet
            exact ⟨rfl, rfl⟩
      case rest =>
        obtain ⟨rfl, rfl⟩ := hcut
        clear hidx hc0 hb
        go_wp2_with fail
        go_step3
        go_wp2_with fail
        go_loopg [0, 4] (s.size + 1) (fun kq v0 v4 wr => ∃ (t : ByteArray) (p : Nat) (V : Int) (R : Option Addr) (k : Nat), v0 = .string t ∧ v4 = .slice R (canon V).length k ∧ p ≤ s.size ∧ t.size = s.size - p ∧ Hid (t.size < kq) ∧ Hid (chs t = (chs s).drop p) ∧ Hid (Sofar (chs s) p V) ∧ Hid (Own wr w.heap.size R k (canon V)) ∧ Hid (Below w.heap.size w wr))
        case atStart => exact ⟨s, 0, 0, none, 0, rfl, by rw [canon_zero]; rfl, Nat.zero_le _, rfl, Nat.lt_succ_self _, rfl, Sofar.init _, by rw [canon_zero]; exact Own.nil _ _, Below.refl _ _⟩
        case round =>
          obtain ⟨t, p, V, R, k, rfl, rfl, hp, htl, HKQ, HT, HV, HO, HB⟩ := hrel
          obtain ⟨gk', rfl⟩ : ∃ gk', gk = gk' + 1 := ⟨gk - 1, by have := HKQ.out; omega⟩
          obtain ⟨wo, rfl⟩ : ∃ wo : World, wo = wr := ⟨_, rfl⟩
          have HTL := Lib.hid htl
          clear htl
          by_cases ht0 : t.size = 0
          · obtain rfl : t = ⟨#[]⟩ := by
              obtain ⟨⟨l⟩⟩ := t
              have : l = [] := List.length_eq_zero_iff.1 (by simpa [ByteArray.size] using ht0)
              rw [this]
            have hps : p = s.size := by have := HTL.out; omega
            have hg : Good (chs s) := ⟨by rw [HCL.out]; omega, by rw [HCL.out]; exact HL.out, by rw [HCL.out, ← hps]; exact HV.out.all⟩
            have he := HV.out.eq
            rw [hps, ← HCL.out, List.take_of_length_le (Nat.le_refl _)] at he
            have HG := Lib.hid hg
            have HE := Lib.hid he
            clear hg he hps ht0
            go_wp2_with fail
            try rw [Exit.noGoto_ret]
            go_ret2
            refine .inl ⟨HG.out, ?_⟩
            rw [← HE.out]
            exact OutE.mk' rfl HO.out HB.out
          · have hbt := beq_empty ht0
            obtain ⟨q, hq⟩ : ∃ q : Nat, min (t.size : Int) 9 = (q : Int) := ⟨min t.size 9, by omega⟩
            have hq9 : q ≤ 9 := by omega
            have hqt : q ≤ t.size := by omega
            have hq1 : 1 ≤ q := by omega
            have hts : t.size ≤ 4096 := by have := HTL.out; omega
            go_wp2_with fail
            clear hq
            go_loopw [6, 7, 30] (fun v6 v7 v30 wz => ∃ (c : Nat) (D S : Int), v6 = .int .u32 D ∧ v7 = .int .u32 S ∧ v30 = .int .i64 c ∧ c ≤ q ∧ 0 ≤ D ∧ D < S ∧ 1 ≤ S ∧ S ≤ 1000000000 ∧ Hid (Part (chs t) c D S) ∧ wz = wo) (fun _ _ v _ => q - (intOf v).toNat)
            case atStart => exact ⟨0, 0, 1, rfl, rfl, rfl, Nat.zero_le _, by omega, by omega, by omega, by omega, Part.init _, rfl⟩
            case round =>
              obtain ⟨c, D, S, rfl, rfl, rfl, hc, hd0, hd1, hs0, hs1, HP, hww⟩ := hrel
              subst hww
              by_cases hlt : c < q
              · have hidx := idx_run t c (by omega)
                have hc0 := chs_range t c
                have hge : gd (chs t) c = gd (chs s) (p + c) := by rw [HT.out, gd_drop]
                have hps : p + c < s.size := by have := HTL.out; omega
                have hbad : gd (chs t) c < 48 ∨ 57 < gd (chs t) c → ¬ Good (chs s) := fun hx hg => by
                  have := hg.all (p + c) (by rw [HCL.out]; exact hps)
                  omega
                have HBAD := Lib.hid hbad
                clear hge hps hbad
                by_cases hlo : gd (chs t) c < 48
                · have hb1 : decide (gd (chs t) c < 48) = true := by simp [hlo]
                  have HN' := Lib.hid (HBAD.out (.inl hlo))
                  clear hlo HBAD
                  go_wp2_with fail
                  try rw [Exit.noGoto_ret]
                  go_ret2
                  exact ParseOut.bad HN'.out HB.out
                · have hb1 : decide (gd (chs t) c < 48) = false := by simp; omega
                  by_cases hhi : 57 < gd (chs t) c
                  · have hb2 : decide (57 < gd (chs t) c) = true := by simp [hhi]
                    have HN' := Lib.hid (HBAD.out (.inr hhi))
                    clear hhi HBAD
                    go_wp2_with fail
                    try rw [Exit.noGoto_ret]
                    go_ret2
                    exact ParseOut.bad HN'.out HB.out
                  · have hb2 : decide (57 < gd (chs t) c) = false := by simp; omega
                    have hs8 := (HP.out.bound (by omega)).2.2 (by omega)
                    have HPS := Lib.hid (HP.out.step (by rw [chs_length]; omega) (by omega) (by omega))
                    clear HBAD
                    go_wp2_with fail
                    go_roundw
                    case rel => exact ⟨c + 1, _, _, rfl, rfl, by go_num, by omega, HPS.out.d0, HPS.out.d1, by omega, by omega, HPS, trivial⟩
                    case measure => simp [intOf]; omega
              · obtain rfl : c = q := by omega
                have hps : p + c ≤ s.size := by have := HTL.out; omega
                have hvs := HV.out.part (c := c) (D := D) (S := S) (by rw [← HT.out]; exact HP.out) (by rw [HCL.out]; exact hps) hq9
                have hv0 := HV.out.v0
                have hvl := HV.out.len
                have hvs0 : 0 ≤ V * S := Int.mul_nonneg hv0 (by omega)
                have hvsl : (canon (V * S)).length ≤ p + c := canon_length_le hvs0 (by have := hvs.v1; omega)
                have hsub := sub_run t c hqt
                have HVS := Lib.hid hvs
                clear hvs
                go_wp2_with fail
                refine (mul_calls R _ k 1 _ 1 (canon V) [S] _ (HO.out.rd.alloc _) (lit1_at wr wr.heap.size _ (Nat.le_refl _) rfl S).rd rfl rfl (canon_dg _) (dg1 (by omega) (by omega)) (by omega) (by simp)).mono ?_
                rintro e wm ⟨Rm, km, rfl, hOm, hBm⟩
                rw [canon_val hv0, val_one] at hOm ⊢
                go_wp2_with fail
                refine (add_calls Rm _ km 1 _ 1 (canon (V * S)) [D] _ (hOm.rd.alloc _) (lit1_at wm wm.heap.size _ (Nat.le_refl _) rfl D).rd rfl rfl (canon_dg _) (dg1 (by omega) (by omega)) (by omega) (by simp)).mono ?_
                rintro e wa ⟨Ra, ka, rfl, hOa, hBa⟩
                rw [canon_val hvs0, val_one] at hOa ⊢
                go_wp2_with fail
                have hsz : (t.extract c t.size).size = t.size - c := by
                  have h1 := chs_length (t.extract c t.size)
                  rw [chs_extract, List.length_drop, chs_length] at h1
                  omega
                go_roundg gk'
                case measure => omega
                case rel => exact ⟨t.extract c t.size, p + c, V * S + D, Ra, ka, rfl, rfl, hps, by rw [hsz]; have := HTL.out; omega, by show _ < _; rw [hsz]; have := HKQ.out; omega, by show _ = _; rw [chs_extract, HT.out, List.drop_drop], HVS, hOa.mono (chainC HB.out hBm hBa).2, (chainC HB.out hBm hBa).1⟩
end Go.Proofs.Ytcmiciloiicfoaa
