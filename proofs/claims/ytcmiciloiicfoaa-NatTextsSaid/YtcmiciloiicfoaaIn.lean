/- A slice of uint32 that came in, as the row's reader tells it, reads as a list of digits. -/
import Derived.Test.YtcmiciloiicfoaaRTrim
namespace Go.Proofs.Ytcmiciloiicfoaa
open Go.RowKit Go.Proofs.YtcmiciloiicfoaaW.PrintWords

def IsRow (k : IntKind) (w : World) (a : Option Addr) (len cap : Nat) (zs : List Int) : Prop :=
  (a = none ∧ len = 0 ∧ cap = 0 ∧ zs = []) ∨
  ∃ x, a = some x ∧ len ≤ cap ∧ cap ≤ maxLen ∧ zs.length = cap ∧ (∀ i, i < zs.length → w.cell? (x.add i) = some (.int k (zs.getD i 0))) ∧ ∀ n ∈ zs, (Lit.int k n).wf = true
theorem wf_u32 {n : Int} (h : (Lit.int .u32 n).wf = true) : 0 ≤ n ∧ n < 4294967296 := by
  simp [Lit.wf, IntKind.min, IntKind.max, IntKind.signed, IntKind.bits] at h
  omega
theorem IsRow.rd {w : World} {a : Option Addr} {len cap : Nat} {zs : List Int} (h : IsRow .u32 w a len cap zs) (hl : len ≤ 4294967296) : ∃ xs, Rd w a cap xs ∧ len = xs.length ∧ Dg xs := by
  rcases h with ⟨rfl, rfl, rfl, rfl⟩ | ⟨x, rfl, h1, h2, h3, h4, h5⟩
  · exact ⟨[], ⟨by simp, by simp, fun _ => rfl, fun h => absurd h (by simp)⟩, rfl, Dg.nil⟩
  · have hll : (zs.take len).length = len := by rw [List.length_take]; omega
    refine ⟨zs.take len, ⟨by omega, by omega, (fun e => by cases e), fun _ => ⟨x, rfl, fun j hj => ?_⟩⟩, hll.symm, fun d hd => wf_u32 (h5 d (List.mem_of_mem_take hd))⟩
    rw [gd_take (by omega)]
    exact h4 j (by omega)
end Go.Proofs.Ytcmiciloiicfoaa
