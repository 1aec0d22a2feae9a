/-
  The Go structs as Lean structures, their cells and ranges.
  Conditions: none.
-/
import Derived.Test.YtgkgklgeobbmlaaBase
namespace Go.Proofs.Ytgkgklgeobbmlaa
open Go.RowKit

structure Wn where
  si : Int
  su : Bool
  ea : Int
  la : Int
  deriving DecidableEq, Repr
def Wn.z : Wn := ⟨0, false, 0, 0⟩
def Wn.enc (p : Wn) : List Value := [.int .u8 p.si, .bool p.su, .int .i64 p.ea, .int .i64 p.la]
structure Wn.Ok (p : Wn) : Prop where
  si0 : 0 ≤ p.si
  si1 : p.si ≤ 255
  ea0 : -9223372036854775808 ≤ p.ea
  ea1 : p.ea ≤ 9223372036854775807
  la0 : -9223372036854775808 ≤ p.la
  la1 : p.la ≤ 9223372036854775807
def Wn.ks : List Sc := [.int .u8, .bool, .int .i64, .int .i64]
theorem Wn.enc_length (p : Wn) : p.enc.length = 4 := rfl
theorem Wn.of (cs : List Value) (hl : cs.length = Wn.ks.length) (h : OkL Wn.ks cs) : ∃ p : Wn, cs = p.enc ∧ p.Ok := by
  match cs, hl with
  | [c0, c1, c2, c3], _ =>
    obtain ⟨v0, e0, b0, rfl, w0⟩ := h 0 _ rfl
    simp at e0
    have r0 := bounds_u8 w0
    subst e0
    obtain ⟨v1, e1, b1, rfl⟩ := h 1 _ rfl
    simp at e1
    subst e1
    obtain ⟨v2, e2, b2, rfl, w2⟩ := h 2 _ rfl
    simp at e2
    have r2 := bounds_i64 w2
    subst e2
    obtain ⟨v3, e3, b3, rfl, w3⟩ := h 3 _ rfl
    simp at e3
    have r3 := bounds_i64 w3
    subst e3
    exact ⟨⟨b0, b1, b2, b3⟩, rfl, ⟨r0.1, r0.2, r2.1, r2.2, r3.1, r3.2⟩⟩

structure Fa where
  ti : Int
  fr : Int
  by_ : Int
  deriving DecidableEq, Repr
def Fa.z : Fa := ⟨0, 0, 0⟩
def Fa.enc (p : Fa) : List Value := [.int .i64 p.ti, .int .i8 p.fr, .int .i64 p.by_]
structure Fa.Ok (p : Fa) : Prop where
  ti0 : -9223372036854775808 ≤ p.ti
  ti1 : p.ti ≤ 9223372036854775807
  fr0 : -128 ≤ p.fr
  fr1 : p.fr ≤ 127
  by_0 : -9223372036854775808 ≤ p.by_
  by_1 : p.by_ ≤ 9223372036854775807
def Fa.ks : List Sc := [.int .i64, .int .i8, .int .i64]
theorem Fa.enc_length (p : Fa) : p.enc.length = 3 := rfl
theorem Fa.of (cs : List Value) (hl : cs.length = Fa.ks.length) (h : OkL Fa.ks cs) : ∃ p : Fa, cs = p.enc ∧ p.Ok := by
  match cs, hl with
  | [c0, c1, c2], _ =>
    obtain ⟨v0, e0, b0, rfl, w0⟩ := h 0 _ rfl
    simp at e0
    have r0 := bounds_i64 w0
    subst e0
    obtain ⟨v1, e1, b1, rfl, w1⟩ := h 1 _ rfl
    simp at e1
    have r1 := bounds_i8 w1
    subst e1
    obtain ⟨v2, e2, b2, rfl, w2⟩ := h 2 _ rfl
    simp at e2
    have r2 := bounds_i64 w2
    subst e2
    exact ⟨⟨b0, b1, b2⟩, rfl, ⟨r0.1, r0.2, r1.1, r1.2, r2.1, r2.2⟩⟩

structure Sp where
  lo : Int
  hi : Int
  deriving DecidableEq, Repr
def Sp.z : Sp := ⟨0, 0⟩
def Sp.enc (p : Sp) : List Value := [.int .i8 p.lo, .int .i8 p.hi]
structure Sp.Ok (p : Sp) : Prop where
  lo0 : -128 ≤ p.lo
  lo1 : p.lo ≤ 127
  hi0 : -128 ≤ p.hi
  hi1 : p.hi ≤ 127
def Sp.ks : List Sc := [.int .i8, .int .i8]
theorem Sp.enc_length (p : Sp) : p.enc.length = 2 := rfl
theorem Sp.of (cs : List Value) (hl : cs.length = Sp.ks.length) (h : OkL Sp.ks cs) : ∃ p : Sp, cs = p.enc ∧ p.Ok := by
  match cs, hl with
  | [c0, c1], _ =>
    obtain ⟨v0, e0, b0, rfl, w0⟩ := h 0 _ rfl
    simp at e0
    have r0 := bounds_i8 w0
    subst e0
    obtain ⟨v1, e1, b1, rfl, w1⟩ := h 1 _ rfl
    simp at e1
    have r1 := bounds_i8 w1
    subst e1
    exact ⟨⟨b0, b1⟩, rfl, ⟨r0.1, r0.2, r1.1, r1.2⟩⟩

structure Pc where
  x : Int
  y : Int
  k : Int
  t : Int
  d : Int
  deriving DecidableEq, Repr
def Pc.z : Pc := ⟨0, 0, 0, 0, 0⟩
def Pc.enc (p : Pc) : List Value := [.int .i8 p.x, .int .i8 p.y, .int .i8 p.k, .int .i8 p.t, .int .i8 p.d]
structure Pc.Ok (p : Pc) : Prop where
  x0 : -128 ≤ p.x
  x1 : p.x ≤ 127
  y0 : -128 ≤ p.y
  y1 : p.y ≤ 127
  k0 : -128 ≤ p.k
  k1 : p.k ≤ 127
  t0 : -128 ≤ p.t
  t1 : p.t ≤ 127
  d0 : -128 ≤ p.d
  d1 : p.d ≤ 127
def Pc.ks : List Sc := [.int .i8, .int .i8, .int .i8, .int .i8, .int .i8]
theorem Pc.enc_length (p : Pc) : p.enc.length = 5 := rfl
theorem Pc.of (cs : List Value) (hl : cs.length = Pc.ks.length) (h : OkL Pc.ks cs) : ∃ p : Pc, cs = p.enc ∧ p.Ok := by
  match cs, hl with
  | [c0, c1, c2, c3, c4], _ =>
    obtain ⟨v0, e0, b0, rfl, w0⟩ := h 0 _ rfl
    simp at e0
    have r0 := bounds_i8 w0
    subst e0
    obtain ⟨v1, e1, b1, rfl, w1⟩ := h 1 _ rfl
    simp at e1
    have r1 := bounds_i8 w1
    subst e1
    obtain ⟨v2, e2, b2, rfl, w2⟩ := h 2 _ rfl
    simp at e2
    have r2 := bounds_i8 w2
    subst e2
    obtain ⟨v3, e3, b3, rfl, w3⟩ := h 3 _ rfl
    simp at e3
    have r3 := bounds_i8 w3
    subst e3
    obtain ⟨v4, e4, b4, rfl, w4⟩ := h 4 _ rfl
    simp at e4
    have r4 := bounds_i8 w4
    subst e4
    exact ⟨⟨b0, b1, b2, b3, b4⟩, rfl, ⟨r0.1, r0.2, r1.1, r1.2, r2.1, r2.2, r3.1, r3.2, r4.1, r4.2⟩⟩

structure Pu where
  x : Int
  y : Int
  s : Int
  t : Int
  deriving DecidableEq, Repr
def Pu.z : Pu := ⟨0, 0, 0, 0⟩
def Pu.enc (p : Pu) : List Value := [.int .i8 p.x, .int .i8 p.y, .int .i8 p.s, .int .i16 p.t]
structure Pu.Ok (p : Pu) : Prop where
  x0 : -128 ≤ p.x
  x1 : p.x ≤ 127
  y0 : -128 ≤ p.y
  y1 : p.y ≤ 127
  s0 : -128 ≤ p.s
  s1 : p.s ≤ 127
  t0 : -32768 ≤ p.t
  t1 : p.t ≤ 32767
def Pu.ks : List Sc := [.int .i8, .int .i8, .int .i8, .int .i16]
theorem Pu.enc_length (p : Pu) : p.enc.length = 4 := rfl
theorem Pu.of (cs : List Value) (hl : cs.length = Pu.ks.length) (h : OkL Pu.ks cs) : ∃ p : Pu, cs = p.enc ∧ p.Ok := by
  match cs, hl with
  | [c0, c1, c2, c3], _ =>
    obtain ⟨v0, e0, b0, rfl, w0⟩ := h 0 _ rfl
    simp at e0
    have r0 := bounds_i8 w0
    subst e0
    obtain ⟨v1, e1, b1, rfl, w1⟩ := h 1 _ rfl
    simp at e1
    have r1 := bounds_i8 w1
    subst e1
    obtain ⟨v2, e2, b2, rfl, w2⟩ := h 2 _ rfl
    simp at e2
    have r2 := bounds_i8 w2
    subst e2
    obtain ⟨v3, e3, b3, rfl, w3⟩ := h 3 _ rfl
    simp at e3
    have r3 := bounds_i16 w3
    subst e3
    exact ⟨⟨b0, b1, b2, b3⟩, rfl, ⟨r0.1, r0.2, r1.1, r1.2, r2.1, r2.2, r3.1, r3.2⟩⟩

structure Ce where
  x : Int
  y : Int
  deriving DecidableEq, Repr
def Ce.z : Ce := ⟨0, 0⟩
def Ce.enc (p : Ce) : List Value := [.int .i8 p.x, .int .i8 p.y]
structure Ce.Ok (p : Ce) : Prop where
  x0 : -128 ≤ p.x
  x1 : p.x ≤ 127
  y0 : -128 ≤ p.y
  y1 : p.y ≤ 127
def Ce.ks : List Sc := [.int .i8, .int .i8]
theorem Ce.enc_length (p : Ce) : p.enc.length = 2 := rfl
theorem Ce.of (cs : List Value) (hl : cs.length = Ce.ks.length) (h : OkL Ce.ks cs) : ∃ p : Ce, cs = p.enc ∧ p.Ok := by
  match cs, hl with
  | [c0, c1], _ =>
    obtain ⟨v0, e0, b0, rfl, w0⟩ := h 0 _ rfl
    simp at e0
    have r0 := bounds_i8 w0
    subst e0
    obtain ⟨v1, e1, b1, rfl, w1⟩ := h 1 _ rfl
    simp at e1
    have r1 := bounds_i8 w1
    subst e1
    exact ⟨⟨b0, b1⟩, rfl, ⟨r0.1, r0.2, r1.1, r1.2⟩⟩

structure Kn where
  af : Int
  pi : Int
  sd : Int
  deriving DecidableEq, Repr
def Kn.z : Kn := ⟨0, 0, 0⟩
def Kn.enc (p : Kn) : List Value := [.int .i64 p.af, .int .i64 p.pi, .int .i8 p.sd]
structure Kn.Ok (p : Kn) : Prop where
  af0 : -9223372036854775808 ≤ p.af
  af1 : p.af ≤ 9223372036854775807
  pi0 : -9223372036854775808 ≤ p.pi
  pi1 : p.pi ≤ 9223372036854775807
  sd0 : -128 ≤ p.sd
  sd1 : p.sd ≤ 127
def Kn.ks : List Sc := [.int .i64, .int .i64, .int .i8]
theorem Kn.enc_length (p : Kn) : p.enc.length = 3 := rfl
theorem Kn.of (cs : List Value) (hl : cs.length = Kn.ks.length) (h : OkL Kn.ks cs) : ∃ p : Kn, cs = p.enc ∧ p.Ok := by
  match cs, hl with
  | [c0, c1, c2], _ =>
    obtain ⟨v0, e0, b0, rfl, w0⟩ := h 0 _ rfl
    simp at e0
    have r0 := bounds_i64 w0
    subst e0
    obtain ⟨v1, e1, b1, rfl, w1⟩ := h 1 _ rfl
    simp at e1
    have r1 := bounds_i64 w1
    subst e1
    obtain ⟨v2, e2, b2, rfl, w2⟩ := h 2 _ rfl
    simp at e2
    have r2 := bounds_i8 w2
    subst e2
    exact ⟨⟨b0, b1, b2⟩, rfl, ⟨r0.1, r0.2, r1.1, r1.2, r2.1, r2.2⟩⟩

structure Wy where
  fx : Int
  fy : Int
  sd : Int
  tx : Int
  ty : Int
  ou : Int
  deriving DecidableEq, Repr
def Wy.z : Wy := ⟨0, 0, 0, 0, 0, 0⟩
def Wy.enc (p : Wy) : List Value := [.int .i8 p.fx, .int .i8 p.fy, .int .i8 p.sd, .int .i8 p.tx, .int .i8 p.ty, .int .i8 p.ou]
structure Wy.Ok (p : Wy) : Prop where
  fx0 : -128 ≤ p.fx
  fx1 : p.fx ≤ 127
  fy0 : -128 ≤ p.fy
  fy1 : p.fy ≤ 127
  sd0 : -128 ≤ p.sd
  sd1 : p.sd ≤ 127
  tx0 : -128 ≤ p.tx
  tx1 : p.tx ≤ 127
  ty0 : -128 ≤ p.ty
  ty1 : p.ty ≤ 127
  ou0 : -128 ≤ p.ou
  ou1 : p.ou ≤ 127
def Wy.ks : List Sc := [.int .i8, .int .i8, .int .i8, .int .i8, .int .i8, .int .i8]
theorem Wy.enc_length (p : Wy) : p.enc.length = 6 := rfl
theorem Wy.of (cs : List Value) (hl : cs.length = Wy.ks.length) (h : OkL Wy.ks cs) : ∃ p : Wy, cs = p.enc ∧ p.Ok := by
  match cs, hl with
  | [c0, c1, c2, c3, c4, c5], _ =>
    obtain ⟨v0, e0, b0, rfl, w0⟩ := h 0 _ rfl
    simp at e0
    have r0 := bounds_i8 w0
    subst e0
    obtain ⟨v1, e1, b1, rfl, w1⟩ := h 1 _ rfl
    simp at e1
    have r1 := bounds_i8 w1
    subst e1
    obtain ⟨v2, e2, b2, rfl, w2⟩ := h 2 _ rfl
    simp at e2
    have r2 := bounds_i8 w2
    subst e2
    obtain ⟨v3, e3, b3, rfl, w3⟩ := h 3 _ rfl
    simp at e3
    have r3 := bounds_i8 w3
    subst e3
    obtain ⟨v4, e4, b4, rfl, w4⟩ := h 4 _ rfl
    simp at e4
    have r4 := bounds_i8 w4
    subst e4
    obtain ⟨v5, e5, b5, rfl, w5⟩ := h 5 _ rfl
    simp at e5
    have r5 := bounds_i8 w5
    subst e5
    exact ⟨⟨b0, b1, b2, b3, b4, b5⟩, rfl, ⟨r0.1, r0.2, r1.1, r1.2, r2.1, r2.2, r3.1, r3.2, r4.1, r4.2, r5.1, r5.2⟩⟩

structure Nu where
  n : Int
  deriving DecidableEq, Repr
def Nu.z : Nu := ⟨0⟩
def Nu.enc (p : Nu) : List Value := [.int .i64 p.n]
structure Nu.Ok (p : Nu) : Prop where
  n0 : -9223372036854775808 ≤ p.n
  n1 : p.n ≤ 9223372036854775807
def Nu.ks : List Sc := [.int .i64]
theorem Nu.enc_length (p : Nu) : p.enc.length = 1 := rfl
theorem Nu.of (cs : List Value) (hl : cs.length = Nu.ks.length) (h : OkL Nu.ks cs) : ∃ p : Nu, cs = p.enc ∧ p.Ok := by
  match cs, hl with
  | [c0], _ =>
    obtain ⟨v0, e0, b0, rfl, w0⟩ := h 0 _ rfl
    simp at e0
    have r0 := bounds_i64 w0
    subst e0
    exact ⟨⟨b0⟩, rfl, ⟨r0.1, r0.2⟩⟩

end Go.Proofs.Ytgkgklgeobbmlaa
