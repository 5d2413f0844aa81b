/- bits.Len32 and bits.LeadingZeros32. -/
import Derived.Test.YtcmiciloiicfoaaTrim
import Derived.Lib.BitFns
import Derived.Lib.Walk
import Derived.Lib.Small
namespace Go.Proofs.Ytcmiciloiicfoaa
open Go.RowKit Go.Proofs.YtcmiciloiicfoaaW.PrintWords

set_option maxHeartbeats 4000000 in
set_option maxRecDepth 100000 in
theorem len32_calls (x : Int) (w : World) (h0 : 0 ≤ x) (h1 : x ≤ 4294967295) :
    Calls Try.prog 104 #[.int .u32 x] w fun e w' => e = .returned (.int .i64 (Lib.bitLen x.toNat)) ∧ w' = w := by
  have t9 := Try.underlying9
  rcases Int.lt_or_le x 65536 with h2 | h2
  · rcases Int.lt_or_le x 256 with h3 | h3
    · have q := fun (W : World) => Lib.run_index_len8tab (P := Try.prog) W 9 .u8 x t9 h0 (by omega)
      have l8 := Lib.len8_of x h0 (by omega)
      have hl := Lib.bitLen_le8' x h0 (by omega)
      have L8 := Lib.hid l8
      clear l8
      go_enter Try.func104, Try.ntmps104
      go_wp2
      go_ret
      refine ⟨congrArg Ending.returned (congrArg (Value.int IntKind.i64) ?_), rfl⟩
      rw [L8.out]; unfold wrap64; omega
    · have q := fun (W : World) => Lib.run_index_len8tab (P := Try.prog) W 9 .u8 (x / 256) t9 (by omega) (by omega)
      have l8 := Lib.len8_of (x / 256) (by omega) (by omega)
      have hl := Lib.bitLen_le8' (x / 256) (by omega) (by omega)
      have s := Lib.bitLen_shift8 x.toNat (by omega) (by omega)
      have e : (x / 256).toNat = x.toNat / 256 := by omega
      rw [e] at hl l8
      have L8 := Lib.hid l8
      have S := Lib.hid s
      clear l8 s e
      go_enter Try.func104, Try.ntmps104
      go_wp2
      go_ret
      refine ⟨congrArg Ending.returned (congrArg (Value.int IntKind.i64) ?_), rfl⟩
      rw [L8.out, S.out]; unfold wrap64; omega
  · rcases Int.lt_or_le x 16777216 with h3 | h3
    · have q := fun (W : World) => Lib.run_index_len8tab (P := Try.prog) W 9 .u8 (x / 65536) t9 (by omega) (by omega)
      have l8 := Lib.len8_of (x / 65536) (by omega) (by omega)
      have hl := Lib.bitLen_le8' (x / 65536) (by omega) (by omega)
      have s := Lib.bitLen_shift16 x.toNat (by omega) (by omega)
      have e : (x / 65536).toNat = x.toNat / 65536 := by omega
      rw [e] at hl l8
      have L8 := Lib.hid l8
      have S := Lib.hid s
      clear l8 s e
      go_enter Try.func104, Try.ntmps104
      go_wp2
      go_ret
      refine ⟨congrArg Ending.returned (congrArg (Value.int IntKind.i64) ?_), rfl⟩
      rw [L8.out, S.out]; unfold wrap64; omega
    · have q := fun (W : World) => Lib.run_index_len8tab (P := Try.prog) W 9 .u8 (x / 65536 / 256) t9 (by omega) (by omega)
      have l8 := Lib.len8_of (x / 65536 / 256) (by omega) (by omega)
      have hl := Lib.bitLen_le8' (x / 65536 / 256) (by omega) (by omega)
      have s := Lib.bitLen_shift24 x.toNat (by omega) (by omega)
      have e : (x / 65536 / 256).toNat = x.toNat / 16777216 := by omega
      rw [e] at hl l8
      have L8 := Lib.hid l8
      have S := Lib.hid s
      clear l8 s e
      go_enter Try.func104, Try.ntmps104
      go_wp2
      go_ret
      refine ⟨congrArg Ending.returned (congrArg (Value.int IntKind.i64) ?_), rfl⟩
      rw [L8.out, S.out]; unfold wrap64; omega

/-- How many bits a number from 1 to 2^32 - 1 has: 2^(bl x - 1) ≤ x < 2^(bl x). -/
def bl (x : Int) : Nat := Lib.bitLen x.toNat
theorem bitLen_zero : Lib.bitLen 0 = 0 := by decide
theorem bitLen_spec (n : Nat) (h0 : 0 < n) (h : n < 2 ^ 64) : 0 < Lib.bitLen n ∧ 2 ^ (Lib.bitLen n - 1) ≤ n ∧ n < 2 ^ Lib.bitLen n := by
  induction n using Nat.strongRecOn with
  | _ n ih =>
    rw [Lib.bitLen_half n (by omega) h]
    rcases Nat.eq_zero_or_pos (n / 2) with hz | hp
    · rw [hz, bitLen_zero]
      obtain rfl : n = 1 := by omega
      decide
    · obtain ⟨i0, i1, i2⟩ := ih (n / 2) (by omega) hp (by omega)
      refine ⟨by omega, ?_, ?_⟩
      · rw [show 1 + Lib.bitLen (n / 2) - 1 = (Lib.bitLen (n / 2) - 1) + 1 from by omega, Nat.pow_succ]; omega
      · rw [Nat.add_comm, Nat.pow_succ]; omega
theorem bl_le {x : Int} (h0 : 0 ≤ x) (h1 : x ≤ 4294967295) : bl x ≤ 32 := Lib.bitLen_le _ 32 (by omega) (by omega)
theorem bl_pos {x : Int} (h0 : 0 < x) (h1 : x ≤ 4294967295) : 0 < bl x := (bitLen_spec x.toNat (by omega) (by omega)).1
theorem bl_low {x : Int} (h0 : 0 < x) (h1 : x ≤ 4294967295) : (2 : Int) ^ (bl x - 1) ≤ x := by
  have := (bitLen_spec x.toNat (by omega) (by omega)).2.1
  have e : ((2 ^ (Lib.bitLen x.toNat - 1) : Nat) : Int) ≤ (x.toNat : Int) := by exact_mod_cast this
  unfold bl
  rw [Int.toNat_of_nonneg (by omega)] at e
  simpa using e
theorem bl_high {x : Int} (h0 : 0 < x) (h1 : x ≤ 4294967295) : x < (2 : Int) ^ bl x := by
  have := (bitLen_spec x.toNat (by omega) (by omega)).2.2
  have e : (x.toNat : Int) < ((2 ^ Lib.bitLen x.toNat : Nat) : Int) := by exact_mod_cast this
  unfold bl
  rw [Int.toNat_of_nonneg (by omega)] at e
  simpa using e

theorem lz_calls (x : Int) (w : World) (h0 : 0 ≤ x) (h1 : x ≤ 4294967295) :
    Calls Try.prog 98 #[.int .u32 x] w fun e w' => e = .returned (.int .i64 (32 - bl x)) ∧ w = w' := by
  have hb := bl_le h0 h1
  have K := Lib.hid fun W => len32_calls x W h0 h1
  change Hid (∀ W, Calls Try.prog 104 #[.int .u32 x] W fun e w' => e = .returned (.int .i64 (bl x)) ∧ w' = W) at K
  go_enter Try.func98, Try.ntmps98
  go_wp2_with fail
  refine (K.out _).mono ?_
  rintro e w' ⟨rfl, rfl⟩
  go_wp2_with fail
  go_ret
  exact ⟨rfl, rfl⟩
end Go.Proofs.Ytcmiciloiicfoaa
