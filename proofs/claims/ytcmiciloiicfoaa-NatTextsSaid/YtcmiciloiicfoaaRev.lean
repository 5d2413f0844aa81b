/- slices.Reverse on bytes of the call's own. -/
import Derived.Test.YtcmiciloiicfoaaRoot
import Derived.RegionTactic
namespace Go.Proofs.Ytcmiciloiicfoaa
open Go.RowKit Go.Proofs.YtcmiciloiicfoaaW.PrintWords

theorem info5 : (Try.prog.info? 5).map (fun i => (i.zero, i.size, i.bytes)) = some (some (.int .u8 0), 1, 1) := by kernel_rfl
/-- Bytes of the call's own. -/
structure OwnB (w : World) (base : Nat) (A : Option Addr) (c : Nat) (s : List Int) : Prop where
  own : w.ownsRow base 5 1 (.slice A s.length c) s.length (nums .u8 s)
theorem OwnB.nil (w : World) (base : Nat) : OwnB w base none 0 [] := ⟨own_nil w base 5 1⟩
theorem OwnB.form {w : World} {base c : Nat} {A : Option Addr} {s : List Int} (h : OwnB w base A c s) (hn : 0 < s.length) : ∃ g, A = some ⟨g, 0, none⟩ ∧ base ≤ g ∧ g < w.heap.size := by
  obtain ⟨g, cap, he, h1, h2⟩ := h.own.form hn
  injection he with he _ _
  exact ⟨g, he, h1, h2⟩
theorem OwnB.cell {w : World} {base c g : Nat} {s : List Int} (h : OwnB w base (some ⟨g, 0, none⟩) c s) (k : Nat) (hk : k < s.length) : w.cell? ⟨g, k, none⟩ = some (.int .u8 (gd s k)) := by
  rw [h.own.cellAt k (by omega)]
  simp [nums, gd_lt hk]
theorem OwnB.frozen {w : World} {base c g : Nat} {s : List Int} (h : OwnB w base (some ⟨g, 0, none⟩) c s) (k : Nat) : w.frozen? ⟨g, k, none⟩ = false := h.own.frozenAt k
theorem OwnB.set {w : World} {base c g : Nat} {s : List Int} (h : OwnB w base (some ⟨g, 0, none⟩) c s) (k : Nat) (x : Int) : OwnB (w.setCell ⟨g, k, none⟩ (.int .u8 x)) base (some ⟨g, 0, none⟩) c (s.set k x) := by
  have h1 := h.own.stored k (.int .u8 x)
  refine ⟨?_⟩
  rw [List.length_set]
  simpa [nums, List.map_set] using h1.1
theorem OwnB.keep {w w1 : World} {base c : Nat} {A : Option Addr} {s : List Int} (h : OwnB w base A c s) (hb : ∀ g, A = some ⟨g, 0, none⟩ → w1.heap[g]? = w.heap[g]?) : OwnB w1 base A c s :=
  ⟨own_move h.own (fun k hk => by
    rcases h.own.2 with ⟨he, h0⟩ | ⟨g, cap, cur, he, _⟩
    · injection he with he _ _; subst he; simp [Value.ownBlock] at hk
    · injection he with he _ _; subst he
      have : g = k := by simpa [Value.ownBlock] using hk
      subst this
      exact hb g rfl)⟩
theorem OwnB.drew {w : World} {base c : Nat} {A : Option Addr} {s : List Int} (h : OwnB w base A c s) : OwnB w.drew base A c s := h.keep fun _ _ => rfl

/-- Two of a list's elements exchanged, i times from both ends. -/
structure RevInv (s : List Int) (i : Nat) (t : List Int) : Prop where
  len : t.length = s.length
  ends : ∀ k, k < s.length → (k < i ∨ s.length ≤ k + i) → gd t k = gd s (s.length - 1 - k)
  mid : ∀ k, i ≤ k → k + i < s.length → gd t k = gd s k
theorem RevInv.init (s : List Int) : RevInv s 0 s := ⟨rfl, fun k h1 h2 => by omega, fun _ _ _ => rfl⟩
theorem RevInv.step {s t : List Int} {i : Nat} (h : RevInv s i t) (hi : 2 * i + 1 < s.length) : RevInv s (i + 1) ((t.set i (gd t (s.length - 1 - i))).set (s.length - 1 - i) (gd t i)) := by
  have hl := h.len
  refine ⟨by simp; exact hl, fun k h1 h2 => ?_, fun k h1 h2 => ?_⟩
  · rw [gd_set (by simp; omega)]
    by_cases e1 : s.length - 1 - i = k
    · rw [if_pos e1, h.mid i (Nat.le_refl _) (by omega)]
      congr 1; omega
    · rw [if_neg e1, gd_set (by omega)]
      by_cases e2 : i = k
      · rw [if_pos e2, h.mid _ (by omega) (by omega)]
        congr 1; omega
      · rw [if_neg e2]
        exact h.ends k h1 (by omega)
  · rw [gd_set_ne (by omega), gd_set_ne (by omega)]
    exact h.mid k (by omega) (by omega)
theorem gd_reverse {s : List Int} {k : Nat} (h : k < s.length) : gd s.reverse k = gd s (s.length - 1 - k) := by
  simp only [gd, List.getD_eq_getElem?_getD, List.getElem?_reverse h]
theorem RevInv.done {s t : List Int} {i : Nat} (h : RevInv s i t) (hi : s.length ≤ 2 * i + 1) : t = s.reverse := by
  apply list_ext
  · rw [List.length_reverse]; exact h.len
  · intro k hk
    have hl := h.len
    rw [gd_reverse (by omega)]
    by_cases e : k < i ∨ s.length ≤ k + i
    · exact h.ends k (by omega) e
    · rw [h.mid k (by omega) (by omega)]
      congr 1; omega

set_option maxRecDepth 100000 in
set_option maxHeartbeats 400000 in
theorem rev_calls (base c n : Nat) (A : Option Addr) (s : List Int) (w : World) (h : OwnB w base A c s) (hn : n = s.length) (hl : s.length ≤ 4294967296) :
    Calls Try.prog 92 #[.slice A n c] w fun e w' => e = .returned (.tuple #[]) ∧ OwnB w' base A c s.reverse ∧ w.grownBy w' (Value.slice A n c).ownBlock := by
  subst hn
  have H := Lib.hid h
  clear h
  go_enter Try.func92, Try.ntmps92
  go_wp2_with fail
  go_loopw [2, 3] (fun v2 v3 wr => ∃ (i : Nat) (j : Int) (t : List Int), v2 = .int .i64 i ∧ v3 = .int .i64 j ∧ j + i + 1 = s.length ∧ (i : Int) ≤ j + 1 ∧ Hid (RevInv s i t) ∧ Hid (OwnB wr base A c t) ∧ Hid (w.grownBy wr (Value.slice A s.length c).ownBlock)) (fun _ v3 _ => (intOf v3 + 1).toNat)
  case atStart => exact ⟨0, _, s, rfl, rfl, by omega, by omega, RevInv.init s, H.out, only_refl _ _⟩
  case round =>
    obtain ⟨i, j, t, rfl, rfl, hj, hij, HI, HO, HG⟩ := hrel
    by_cases hlt : (i : Int) < j
    · obtain ⟨j', rfl⟩ : ∃ j' : Nat, j = j' := ⟨j.toNat, by omega⟩
      obtain ⟨g, rfl, _, _⟩ := HO.out.form (by have := HI.out.len; omega)
      have hc1 := HO.out.cell i (by have := HI.out.len; omega)
      have hc2 := HO.out.cell j' (by have := HI.out.len; omega)
      have hf1 := HO.out.frozen i
      have hf2 := HO.out.frozen j'
      have hx1 : ∀ u, (wr.setCell ⟨g, i, none⟩ u).cell? ⟨g, j', none⟩ = some (.int .u8 (gd t j')) := fun u => by
        rw [World.cell?_setCell_other _ _ _ _ (by simp <;> omega)]; exact hc2
      have hx2 : ∀ u, (wr.setCell ⟨g, j', none⟩ u).cell? ⟨g, i, none⟩ = some (.int .u8 (gd t i)) := fun u => by
        rw [World.cell?_setCell_other _ _ _ _ (by simp <;> omega)]; exact hc1
      have hil : i < s.length := by omega
      have hjl : j' < s.length := by omega
      have hs := HI.out.step (by omega)
      have e : s.length - 1 - i = j' := by omega
      rw [e] at hs
      have HS := Lib.hid hs
      clear hs e
      go_wp2_with fail
      go_region
      go_wp2_with fail
      go_roundw
      case rel =>
        have h1 := ((HO.out.set i (gd t j')).set j' (gd t i)).drew
        have h2 := only_set (only_set HG.out (g := g) (p := ⟨g, i, none⟩) rfl (.int .u8 (gd t j'))) (p := ⟨g, j', none⟩) rfl (.int .u8 (gd t i))
        exact ⟨i + 1, _, _, by go_num, rfl, by omega, by omega, HS, h1, only_drewN h2 1⟩
      case measure => simp [intOf] <;> omega
    · have hb : decide ((i : Int) < j) = false := by simp; omega
      have hr := HI.out.done (by omega)
      have HR := Lib.hid hr
      clear hr
      go_wp2_with fail
      go_end0
      exact ⟨rfl, by rw [← HR.out]; exact HO.out, HG.out⟩
end Go.Proofs.Ytcmiciloiicfoaa
