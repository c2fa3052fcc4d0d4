namespace Go.Proofs.Ytkdakmddlkgjkaa
set_option maxRecDepth 100000
namespace Sha
structure S8 where
  a : UInt32
  b : UInt32
  c : UInt32
  d : UInt32
  e : UInt32
  f : UInt32
  g : UInt32
  h : UInt32

def rotr (x : UInt32) (n : UInt32) : UInt32 := (x >>> n) ||| (x <<< (32 - n))
def s0 (x : UInt32) : UInt32 := rotr x 7 ^^^ rotr x 18 ^^^ (x >>> 3)
def s1 (x : UInt32) : UInt32 := rotr x 17 ^^^ rotr x 19 ^^^ (x >>> 10)
def b0 (x : UInt32) : UInt32 := rotr x 2 ^^^ rotr x 13 ^^^ rotr x 22
def b1 (x : UInt32) : UInt32 := rotr x 6 ^^^ rotr x 11 ^^^ rotr x 25
def ch (e f g : UInt32) : UInt32 := (e &&& f) ^^^ (~~~ e &&& g)
def maj (a b c : UInt32) : UInt32 := (a &&& b) ^^^ (a &&& c) ^^^ (b &&& c)
def step (v : S8) (k w : UInt32) : S8 :=
  let x := v.h + b1 v.e + ch v.e v.f v.g + k + w
  let y := b0 v.a + maj v.a v.b v.c
  ⟨x + y, v.a, v.b, v.c, v.d + x, v.e, v.f, v.g⟩
def K : List UInt32 := [
  0x428a2f98, 0x71374491, 0xb5c0fbcf, 0xe9b5dba5, 0x3956c25b, 0x59f111f1, 0x923f82a4, 0xab1c5ed5,
  0xd807aa98, 0x12835b01, 0x243185be, 0x550c7dc3, 0x72be5d74, 0x80deb1fe, 0x9bdc06a7, 0xc19bf174,
  0xe49b69c1, 0xefbe4786, 0x0fc19dc6, 0x240ca1cc, 0x2de92c6f, 0x4a7484aa, 0x5cb0a9dc, 0x76f988da,
  0x983e5152, 0xa831c66d, 0xb00327c8, 0xbf597fc7, 0xc6e00bf3, 0xd5a79147, 0x06ca6351, 0x14292967,
  0x27b70a85, 0x2e1b2138, 0x4d2c6dfc, 0x53380d13, 0x650a7354, 0x766a0abb, 0x81c2c92e, 0x92722c85,
  0xa2bfe8a1, 0xa81a664b, 0xc24b8b70, 0xc76c51a3, 0xd192e819, 0xd6990624, 0xf40e3585, 0x106aa070,
  0x19a4c116, 0x1e376c08, 0x2748774c, 0x34b0bcb5, 0x391c0cb3, 0x4ed8aa4a, 0x5b9cca4f, 0x682e6ff3,
  0x748f82ee, 0x78a5636f, 0x84c87814, 0x8cc70208, 0x90befffa, 0xa4506ceb, 0xbef9a3f7, 0xc67178f2]
def V0 : S8 := ⟨0x6a09e667, 0xbb67ae85, 0x3c6ef372, 0xa54ff53a, 0x510e527f, 0x9b05688c, 0x1f83d9ab, 0x5be0cd19⟩
def word (l : List UInt8) : UInt32 := (l.getD 0 0).toUInt32 <<< 24 ||| (l.getD 1 0).toUInt32 <<< 16 ||| (l.getD 2 0).toUInt32 <<< 8 ||| (l.getD 3 0).toUInt32
/-- the first n words of a block -/
def sched (l : List UInt8) : Nat → List UInt32
  | 0 => []
  | n + 1 =>
    let w := sched l n
    w ++ [if n < 16 then word (l.drop (4 * n)) else w.getD (n - 16) 0 + s0 (w.getD (n - 15) 0) + w.getD (n - 7) 0 + s1 (w.getD (n - 2) 0)]
def rounds (w : List UInt32) (v : S8) : Nat → S8
  | 0 => v
  | n + 1 => step (rounds w v n) (K.getD n 0) (w.getD n 0)
def S8.add (v u : S8) : S8 := ⟨v.a + u.a, v.b + u.b, v.c + u.c, v.d + u.d, v.e + u.e, v.f + u.f, v.g + u.g, v.h + u.h⟩
def mix (v : S8) (l : List UInt8) : S8 := v.add (rounds (sched l 64) v 64)
def blocks : Nat → S8 → List UInt8 → S8
  | 0, v, _ => v
  | n + 1, v, l => blocks n (mix v (l.take 64)) (l.drop 64)
def be4 (x : UInt32) : List UInt8 := [(x >>> 24).toUInt8, (x >>> 16).toUInt8, (x >>> 8).toUInt8, x.toUInt8]
def S8.text (v : S8) : List UInt8 := be4 v.a ++ be4 v.b ++ be4 v.c ++ be4 v.d ++ be4 v.e ++ be4 v.f ++ be4 v.g ++ be4 v.h
def be8 (n : Nat) : List UInt8 := (List.range 8).map fun i => UInt8.ofNat (n / 2 ^ (56 - 8 * i))
def pad (n : Nat) : List UInt8 := 0x80 :: List.replicate ((119 - n % 64) % 64) 0 ++ be8 (8 * n)
def sha (l : List UInt8) : List UInt8 := let m := l ++ pad l.length; (blocks (m.length / 64) V0 m).text
def key (k : List UInt8) : List UInt8 := let k := if k.length > 64 then sha k else k; k ++ List.replicate (64 - k.length) 0
def mac (k s : List UInt8) : List UInt8 := sha ((key k).map (· ^^^ 0x5c) ++ sha ((key k).map (· ^^^ 0x36) ++ s))
end Sha
end Go.Proofs.Ytkdakmddlkgjkaa
