/- dspcompilerref01.Parse. -/
import Derived.Test.YtcmiciloiicfoaaTxt
import Derived.Test.YtcmiciloiicfoaaRMul
namespace Go.Proofs.Ytcmiciloiicfoaa
open Go.RowKit Go.Proofs.YtcmiciloiicfoaaW.PrintWords

theorem idx_run (s : ByteArray) (i : Nat) (h : i < s.size) : ∀ W : World, (Instr.index 9 (.string s) (.int .i64 (i : Int))).run Try.prog W = .ok (.int .u8 (gd (chs s) i)) W := by
  intro W
  rw [run_index_string W 9 s .i64 i Try.underlying9, dif_pos ⟨by omega, by omega⟩]
  have hl : i < (chs s).length := by rw [chs_length]; exact h
  have e : ((s[(i : Int).toNat]'(by omega)).toNat : Int) = gd (chs s) i := by
    have h1 := gd_lt hl
    rw [List.getElem?_eq_getElem hl] at h1
    injection h1 with h1
    rw [← h1]
    simp [chs]
    rfl
  rw [e]
/-- What Parse leaves. -/
def ParseOut (w : World) (l : List Int) (e : Ending) (w' : World) : Prop := (Good l ∧ OutE w (canon (dvL l)) 0 e w') ∨ (¬ Good l ∧ OutE w [] 6 e w')
theorem ParseOut.bad {w w' : World} {l : List Int} (h : ¬ Good l) (hb : Below w.heap.size w w') : ParseOut w l (.returned (.tuple #[.slice none 0 0, .int .i64 6])) w' :=
  .inr ⟨h, OutE.mk' rfl (Own.nil _ _) hb⟩
/-- The number so far. -/
structure Sofar (l : List Int) (i : Nat) (V : Int) : Prop where
  all : ∀ j, j < i → 48 ≤ gd l j ∧ gd l j ≤ 57
  eq : V = dvL (l.take i)
  v0 : 0 ≤ V
  v1 : V < pw i
theorem Sofar.init (l : List Int) : Sofar l 0 0 := ⟨fun j h => by omega, by simp [dvL], by omega, by simp⟩
theorem Sofar.step {l : List Int} {i : Nat} {V : Int} (h : Sofar l i V) (hi : i < l.length) (h0 : 48 ≤ gd l i) (h1 : gd l i ≤ 57) : Sofar l (i + 1) (V * 10 + (gd l i - 48)) := by
  have := h.v0
  have := h.v1
  refine ⟨fun j hj => ?_, by rw [dvL_take_succ hi, h.eq], by omega, by rw [pw_succ]; omega⟩
  by_cases e : j = i
  · subst e; exact ⟨h0, h1⟩
  · exact h.all j (by omega)
theorem Sofar.len {l : List Int} {i : Nat} {V : Int} (h : Sofar l i V) : (canon V).length ≤ i := canon_length_le h.v0 h.v1

theorem chainA {w wo wm wa : World} {o1 o2 : Obj} (hb : Below w.heap.size w wo) (h1 : Below ((wo.alloc o1).alloc o2).drew.heap.size ((wo.alloc o1).alloc o2).drew wm) (h2 : Below wm.heap.size wm wa) : Below w.heap.size w wa ∧ w.heap.size ≤ wm.heap.size := by
  have h3 := ((hb.alloc hb.size o1).alloc (by have := hb.size; simp; omega) o2).drew
  have h4 := below_then h3 h3.size h1
  exact ⟨below_then h4 h4.size h2, h4.size⟩
theorem chainB {w wo wm wa : World} {o1 o2 : Obj} (hb : Below w.heap.size w wo) (h1 : Below (wo.alloc o1).drew.heap.size (wo.alloc o1).drew wm) (h2 : Below (wm.alloc o2).heap.size (wm.alloc o2) wa) : Below w.heap.size w wa ∧ w.heap.size ≤ (wm.alloc o2).heap.size := by
  have h3 := (hb.alloc hb.size o1).drew
  have h4 := below_then h3 h3.size h1
  have h5 := h4.alloc h4.size o2
  exact ⟨below_then h5 h5.size h2, h5.size⟩

set_option maxRecDepth 100000 in
set_option maxHeartbeats 1000000 in
theorem rparse_calls (s : ByteArray) (w : World) (hs : s.size ≤ 4096) : Calls Try.prog 59 #[.string s] w (ParseOut w (chs s)) := by
  have hcl := chs_length s
  have HCL := Lib.hid hcl
  clear hcl
  by_cases h0 : s.size = 0
  · have hb : ((s.size : Int) == 0) = true := by simp [h0]
    have HN : ¬ Good (chs s) := fun h => by have := h.pos; have := HCL.out; omega
    have HN' := Lib.hid HN
    clear h0 HN
    go_enter Try.func59, Try.ntmps59
    go_wp2_with fail
    go_ret2
    exact ParseOut.bad HN'.out (Below.refl _ _)
  · have hb : ((s.size : Int) == 0) = false := by rw [beq_eq_false_iff_ne]; omega
    have hidx : ∀ W : World, (Instr.index 9 (.string s) (.int .i64 0)).run Try.prog W = .ok (.int .u8 (gd (chs s) 0)) W := idx_run s 0 (by omega)
    have hc0 := chs_range s 0
    by_cases hl : 1 < s.size ∧ gd (chs s) 0 = 48
    · obtain ⟨hl1, hl2⟩ := hl
      have hb1 : decide (1 < s.size) = true := by simp [hl1]
      have hb2 : (gd (chs s) 0 == 48) = true := by simp [hl2]
      have HN : ¬ Good (chs s) := fun h => h.lead ⟨by rw [HCL.out]; exact hl1, hl2⟩
      have HN' := Lib.hid HN
      clear h0 HN hl2
      go_enter Try.func59, Try.ntmps59
      go_wp2_with fail
      go_ret2
      exact ParseOut.bad HN'.out (Below.refl _ _)
    · have HL := Lib.hid hl
      clear hl
      go_enter Try.func59, Try.ntmps59
      go_upto_region 3 with fail
      go_cut [21] (fun v21 wc => v21 = .bool false ∧ wc = w)
      case first =>
        by_cases h1 : 1 < s.size
        · have hb1 : decide (1 < s.size) = true := by simp [h1]
          have hb2 : (gd (chs s) 0 == 48) = false := by rw [beq_eq_false_iff_ne]; exact fun e => HL.out ⟨h1, e⟩
          go_wp2_with fail
          go_meet
          exact ⟨rfl, rfl⟩
        · have hb1 : decide (1 < s.size) = false := by simp; omega
          go_wp2_with fail
          go_meet
          exact ⟨rfl, rfl⟩
      case rest =>
        obtain ⟨rfl, rfl⟩ := hcut
        clear hidx hc0 hb
        go_wp2_with fail
        go_loopw [4, 5] (fun v4 v5 wr => ∃ (i : Nat) (V : Int) (R : Option Addr) (k : Nat), v4 = .slice R (canon V).length k ∧ v5 = .int .i64 i ∧ i ≤ s.size ∧ Hid (Sofar (chs s) i V) ∧ Hid (Own wr wc.heap.size R k (canon V)) ∧ Hid (Below wc.heap.size wc wr)) (fun _ v _ => s.size - (intOf v).toNat)
        case atStart => exact ⟨0, 0, none, 0, by rw [canon_zero]; rfl, rfl, Nat.zero_le _, Sofar.init _, by rw [canon_zero]; exact Own.nil _ _, Below.refl _ _⟩
        case round =>
          obtain ⟨i, V, R, k, rfl, rfl, hi, HV, HO, HB⟩ := hrel
          obtain ⟨wo, rfl⟩ : ∃ wo : World, wo = wr := ⟨_, rfl⟩
          by_cases hlt : i < s.size
          · have hidx := idx_run s i hlt
            have hc0 := chs_range s i
            by_cases hlo : gd (chs s) i < 48
            · have hb1 : decide (gd (chs s) i < 48) = true := by simp [hlo]
              have HN : ¬ Good (chs s) := fun h => by have := h.all i (by rw [HCL.out]; exact hlt); omega
              have HN' := Lib.hid HN
              clear HN hlo
              go_wp2_with fail
              go_ret2
              exact ParseOut.bad HN'.out HB.out
            · have hb1 : decide (gd (chs s) i < 48) = false := by simp; omega
              by_cases hhi : 57 < gd (chs s) i
              · have hb2 : decide (57 < gd (chs s) i) = true := by simp [hhi]
                have HN : ¬ Good (chs s) := fun h => by have := h.all i (by rw [HCL.out]; exact hlt); omega
                have HN' := Lib.hid HN
                clear HN hhi
                go_wp2_with fail
                go_ret2
                exact ParseOut.bad HN'.out HB.out
              · have hb2 : decide (57 < gd (chs s) i) = false := by simp; omega
                have HS := Lib.hid (HV.out.step (by rw [HCL.out]; exact hlt) (by omega) (by omega))
                have hvl := HV.out.len
                have KM := Lib.hid fun W B (h : Rd W R k (canon V)) (h' : Rd W (some B) 1 [10]) => rmul_calls R (some B) k 1 _ 1 (canon V) [10] W h h' rfl rfl (canon_dg V) (dg1 (by omega) (by omega)) (by omega) (by simp)
                have KA := Lib.hid fun W R2 k2 B (h : Rd W R2 k2 (canon (V * 10))) (h' : Rd W (some B) 1 [gd (chs s) i - 48]) => radd_calls R2 (some B) k2 1 _ 1 (canon (V * 10)) [gd (chs s) i - 48] W h h' rfl rfl (canon_dg _) (dg1 (by omega) (by omega)) (by
                  have h1 := canon_length_le (n := V * 10) (L := i + 1) (by have := HV.out.v0; omega) (by have := HV.out.v1; have := HV.out.v0; rw [pw_succ]; omega)
                  omega) (by simp)
                have hv0 := HV.out.v0
                simp only [val_one, canon_val hv0, canon_val (show 0 ≤ V * 10 by omega)] at KM KA
                have hw1 : IntKind.u8.wrap (gd (chs s) i - 48) = gd (chs s) i - 48 := by rw [IntKind.wrap_u8]; omega
                have hw2 : IntKind.u32.wrap (gd (chs s) i - 48) = gd (chs s) i - 48 := by rw [IntKind.wrap_u32]; omega
                go_wp2_with fail
                go_region_with (first
                  | (go_at_call 50; refine Calls.mono (KM.out _ _ ?_ ?_) ?_; (first | exact (HO.out.rd.alloc _).drew | exact ((HO.out.rd.alloc _).alloc _).drew); (first | exact (lit1_at wo wo.heap.size _ (Nat.le_refl _) rfl 10).rd.drew | exact ((lit1_at wo wo.heap.size _ (Nat.le_refl _) rfl 10).rd.alloc _).drew | exact (lit1_at (wo.alloc _) wo.heap.size _ (by simp) (by simp) 10).rd.drew); rintro e wm ⟨Rm, km, rfl, hOm, hBm⟩)
                  | (go_at_call 48; refine Calls.mono (KA.out _ _ _ _ ?_ ?_) ?_; (first | exact hOm.rd | exact hOm.rd.alloc _); (first | exact (lit1_at wm wm.heap.size _ (Nat.le_refl _) rfl _).rd | exact (lit1_at (wo.alloc _) wo.heap.size _ (by simp) (by simp) _).rd.drew.below hBm | exact ((lit1_at wo wo.heap.size _ (Nat.le_refl _) rfl _).rd.alloc _).drew.below hBm); rintro e wa ⟨Ra, ka, rfl, hOa, hBa⟩))
                all_goals (go_wp2_with fail; go_roundw)
                all_goals first
                  | exact ⟨i + 1, _, Ra, ka, rfl, by go_num, by omega, HS, hOa.mono (chainA HB.out hBm hBa).2, (chainA HB.out hBm hBa).1⟩
                  | exact ⟨i + 1, _, Ra, ka, rfl, by go_num, by omega, HS, hOa.mono (chainB HB.out hBm hBa).2, (chainB HB.out hBm hBa).1⟩
                  | (simp [intOf]; omega)
          · obtain rfl : i = s.size := by omega
            have hg : Good (chs s) := ⟨by rw [HCL.out]; omega, by rw [HCL.out]; exact HL.out, by rw [HCL.out]; exact HV.out.all⟩
            have he := HV.out.eq
            rw [← HCL.out, List.take_of_length_le (Nat.le_refl _)] at he
            have HG := Lib.hid hg
            have HE := Lib.hid he
            clear hg he
            go_wp2_with fail
            go_ret2
            refine .inl ⟨HG.out, ?_⟩
            rw [← HE.out]
            exact OutE.mk' rfl HO.out HB.out
end Go.Proofs.Ytcmiciloiicfoaa
