import Derived.WalkKit
import Derived.Test.YtkdakmddlkgjkaaSha
namespace Go.Proofs.Ytkdakmddlkgjkaa
set_option maxRecDepth 100000
open Sha
theorem u_bv (x : UInt32) : BitVec.ofInt 32 (x.toNat : Int) = x.toBitVec := by
  rw [BitVec.ofInt_natCast]; exact BitVec.eq_of_toNat_eq (by rw [BitVec.toNat_ofNat, UInt32.toNat_toBitVec]; exact Nat.mod_eq_of_lt x.toNat_lt)
theorem wr32 (n : Nat) (h : n < 4294967296) : IntKind.u32.wrap (n : Int) = n := by rw [IntKind.wrap_u32]; omega
/-- a word's number, behind a name that simp does not open -/
def un (x : UInt32) : Int := (x.toNat : Int)
theorem u_or0 (x y : UInt32) : bits .or .u32 (x.toNat : Int) (y.toNat : Int) = ((x ||| y).toNat : Int) := by
  show IntKind.u32.wrap (((BitVec.ofInt 32 (x.toNat : Int) ||| BitVec.ofInt 32 (y.toNat : Int)).toNat : Nat) : Int) = _
  rw [u_bv, u_bv]; exact wr32 _ (x ||| y).toNat_lt
theorem u_and0 (x y : UInt32) : bits .and .u32 (x.toNat : Int) (y.toNat : Int) = ((x &&& y).toNat : Int) := by
  show IntKind.u32.wrap (((BitVec.ofInt 32 (x.toNat : Int) &&& BitVec.ofInt 32 (y.toNat : Int)).toNat : Nat) : Int) = _
  rw [u_bv, u_bv]; exact wr32 _ (x &&& y).toNat_lt
theorem u_xor0 (x y : UInt32) : bits .xor .u32 (x.toNat : Int) (y.toNat : Int) = ((x ^^^ y).toNat : Int) := by
  show IntKind.u32.wrap (((BitVec.ofInt 32 (x.toNat : Int) ^^^ BitVec.ofInt 32 (y.toNat : Int)).toNat : Nat) : Int) = _
  rw [u_bv, u_bv]; exact wr32 _ (x ^^^ y).toNat_lt
theorem u_add0 (x y : UInt32) : ((x.toNat : Int) + (y.toNat : Int)) % (4294967296 : Int) = ((x + y).toNat : Int) := by
  rw [UInt32.toNat_add]; omega
theorem u_lt0 (x : UInt32) : (x.toNat : Int) < 4294967296 := by have := x.toNat_lt; omega
theorem u_shr0 (x n : UInt32) (h : n.toNat < 32) : (x.toNat : Int) / 2 ^ n.toNat = ((x >>> n).toNat : Int) := by
  rw [UInt32.toNat_shiftRight, Nat.shiftRight_eq_div_pow, Nat.mod_eq_of_lt h]; simp
theorem u_shl0 (x n : UInt32) (h : n.toNat < 32) : (x.toNat : Int) * 2 ^ n.toNat % (4294967296 : Int) = ((x <<< n).toNat : Int) := by
  rw [UInt32.toNat_shiftLeft, Nat.shiftLeft_eq, Nat.mod_eq_of_lt h]; simp
theorem u_byte0 (b : UInt8) : (b.toNat : Int) % (4294967296 : Int) = (b.toUInt32.toNat : Int) := by
  have := b.toNat_lt; rw [UInt8.toNat_toUInt32]; omega
theorem u_shl240 (x : UInt32) : (x.toNat : Int) * (16777216 : Int) % (4294967296 : Int) = ((x <<< 24).toNat : Int) := u_shl0 x 24 (by decide)
theorem u_shl160 (x : UInt32) : (x.toNat : Int) * (65536 : Int) % (4294967296 : Int) = ((x <<< 16).toNat : Int) := u_shl0 x 16 (by decide)
theorem u_shl80 (x : UInt32) : (x.toNat : Int) * (256 : Int) % (4294967296 : Int) = ((x <<< 8).toNat : Int) := u_shl0 x 8 (by decide)
theorem u_shr240 (x : UInt32) : (x.toNat : Int) / (16777216 : Int) = ((x >>> 24).toNat : Int) := u_shr0 x 24 (by decide)
theorem u_shr160 (x : UInt32) : (x.toNat : Int) / (65536 : Int) = ((x >>> 16).toNat : Int) := u_shr0 x 16 (by decide)
theorem u_shr80 (x : UInt32) : (x.toNat : Int) / (256 : Int) = ((x >>> 8).toNat : Int) := u_shr0 x 8 (by decide)
theorem u_shr30 (x : UInt32) : (x.toNat : Int) / (8 : Int) = ((x >>> 3).toNat : Int) := u_shr0 x 3 (by decide)
theorem u_shr100 (x : UInt32) : (x.toNat : Int) / (1024 : Int) = ((x >>> 10).toNat : Int) := u_shr0 x 10 (by decide)
theorem u_to80 (x : UInt32) : (x.toNat : Int) % (256 : Int) = (x.toUInt8.toNat : Int) := by
  rw [UInt32.toNat_toUInt8]; omega
theorem u_or (x y : UInt32) : bits .or .u32 (un x) (un y) = un (x ||| y) := u_or0 x y
theorem u_and (x y : UInt32) : bits .and .u32 (un x) (un y) = un (x &&& y) := u_and0 x y
theorem u_xor (x y : UInt32) : bits .xor .u32 (un x) (un y) = un (x ^^^ y) := u_xor0 x y
theorem u_add (x y : UInt32) : (un x + un y) % (4294967296 : Int) = un (x + y) := u_add0 x y
theorem u_shr (x n : UInt32) (h : n.toNat < 32) : (un x) / 2 ^ n.toNat = un (x >>> n) := u_shr0 x n h
theorem u_shl (x n : UInt32) (h : n.toNat < 32) : (un x) * 2 ^ n.toNat % (4294967296 : Int) = un (x <<< n) := u_shl0 x n h
theorem u_byte (b : UInt8) : (b.toNat : Int) % (4294967296 : Int) = un b.toUInt32 := u_byte0 b
theorem u_shl24 (x : UInt32) : (un x) * (16777216 : Int) % (4294967296 : Int) = un (x <<< 24) := u_shl240 x
theorem u_shl16 (x : UInt32) : (un x) * (65536 : Int) % (4294967296 : Int) = un (x <<< 16) := u_shl160 x
theorem u_shl8 (x : UInt32) : (un x) * (256 : Int) % (4294967296 : Int) = un (x <<< 8) := u_shl80 x
theorem u_shr24 (x : UInt32) : (un x) / (16777216 : Int) = un (x >>> 24) := u_shr240 x
theorem u_shr16 (x : UInt32) : (un x) / (65536 : Int) = un (x >>> 16) := u_shr160 x
theorem u_shr8 (x : UInt32) : (un x) / (256 : Int) = un (x >>> 8) := u_shr80 x
theorem u_shr3 (x : UInt32) : (un x) / (8 : Int) = un (x >>> 3) := u_shr30 x
theorem u_shr10 (x : UInt32) : (un x) / (1024 : Int) = un (x >>> 10) := u_shr100 x
theorem u_to8 (x : UInt32) : (un x) % (256 : Int) = (x.toUInt8.toNat : Int) := u_to80 x
theorem un_0 (x : UInt32) : 0 ≤ un x := by unfold un; omega
theorem un_lt (x : UInt32) : un x < 4294967296 := u_lt0 x
def u32v (x : UInt32) : Value := .int .u32 (un x)
theorem ch_prog (e f g : UInt32) : g ^^^ (e &&& (f ^^^ g)) = ch e f g := by
  unfold ch
  apply UInt32.toBitVec_inj.1
  ext i hi
  simp
  cases e.toBitVec[i] <;> cases f.toBitVec[i] <;> cases g.toBitVec[i] <;> rfl
theorem maj_prog (a b c : UInt32) : (a &&& b) ||| (c &&& (a ||| b)) = maj a b c := by
  unfold maj
  apply UInt32.toBitVec_inj.1
  ext i hi
  simp
  cases a.toBitVec[i] <;> cases b.toBitVec[i] <;> cases c.toBitVec[i] <;> rfl
end Go.Proofs.Ytkdakmddlkgjkaa
