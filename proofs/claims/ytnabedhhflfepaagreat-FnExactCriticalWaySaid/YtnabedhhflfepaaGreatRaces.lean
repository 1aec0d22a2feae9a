/-
  Whether a window tells of a race, the program's.
  Conditions: the sides are four bits.
-/
import Derived.Test.YtnabedhhflfepaaGreatWithS
namespace Go.Proofs.YtnabedhhflfepaaGreat
open Go.RowKit
set_option linter.unusedSimpArgs false
set_option linter.unusedVariables false

def RacesOfP (p : Wn) : Bool := (!([0, 1, 2, 4, 8] : List Int).contains p.si) || (p.si != 0 && !p.su)
set_option maxHeartbeats 2000000 in
theorem isRace_I (p : Wn) (hs : 0 ≤ p.si ∧ p.si ≤ 15) (w : World) : Calls Tryz.prog 61 #[.agg p.enc.toArray] w fun e w' => e = .returned (.bool (RacesOfP p)) ∧ Below w.heap.size w w' := by
  have B0 : ∀ o, Below w.heap.size w (w.alloc o) := fun o => (Below.refl _ _).alloc (Nat.le_refl _) o
  show Calls Tryz.prog 61 #[.agg #[.int .u8 p.si, .bool p.su, .int .i64 p.ea, .int .i64 p.la]] w _
  obtain ⟨si, su, ea, la⟩ := p
  dsimp only at hs
  have h16 : si = 0 ∨ si = 1 ∨ si = 2 ∨ si = 3 ∨ si = 4 ∨ si = 5 ∨ si = 6 ∨ si = 7 ∨ si = 8 ∨ si = 9 ∨ si = 10 ∨ si = 11 ∨ si = 12 ∨ si = 13 ∨ si = 14 ∨ si = 15 := by omega
  clear hs
  rcases h16 with rfl | rfl | rfl | rfl | rfl | rfl | rfl | rfl | rfl | rfl | rfl | rfl | rfl | rfl | rfl | rfl
  all_goals cases su
  all_goals (
    go_enter Tryz.func61, Tryz.ntmps61
    go_wp2_with fail
    go_ret
    refine ⟨?_, B0 _⟩
    first | rfl | exact ret_bool (by decide))
def RacesOfG (wi hi : Int) (xs : List Pc) (ps : List Pu) (ss : List Sp) : List Int × Int := withG RacesOfP wi hi xs ps ss
theorem RacesOf_len (wi hi : Int) (xs : List Pc) (ps : List Pu) (ss : List Sp) (h : xs.length ≤ 1048576) : (RacesOfG wi hi xs ps ss).1.length ≤ 1048576 := with_len _ _ _ _ _ _ h
theorem RacesOf_I (w : World) (wi hi : Int) (wl : -128 ≤ wi) (wu : wi ≤ 127) (hl : -128 ≤ hi) (hu : hi ≤ 127) (a : Option Addr) (c : Nat) (xs : List Pc) (h : SlA Pc.enc 5 w a xs) (ha : a = none → c = 0) (ok : ∀ p ∈ xs, p.Ok) (hxl : xs.length ≤ 1048576) (al : Option Addr) (cl : Nat) (ps : List Pu) (hp : SlA Pu.enc 4 w al ps) (hal : al = none → cl = 0) (okp : ∀ p ∈ ps, p.Ok) (hpl : ps.length ≤ 1048576) (sa : Option Addr) (sc : Nat) (ss : List Sp) (hs : SlA Sp.enc 2 w sa ss) (hsa : sa = none → sc = 0) (oks : ∀ p ∈ ss, p.Ok) (hsl : ss.length ≤ 1048576) :
    Calls Tryz.prog 29 #[.agg #[.int .i8 wi, .int .i8 hi, .slice a xs.length c], .slice al ps.length cl, .slice sa ss.length sc] w (ResS en1 1 2 w (RacesOfG wi hi xs ps ss).1 (RacesOfG wi hi xs ps ss).2) := by
  obtain ⟨W0, hW0⟩ : ∃ W, W = w.alloc (.cells #[.int .i8 wi, .int .i8 hi, .slice a xs.length c] 35) := ⟨_, rfl⟩
  have B0 : Below w.heap.size w W0 := by rw [hW0]; exact (Below.refl _ _).alloc (Nat.le_refl _) _
  have H1 := hid (withWindow_I 61 (enters_of Tryz.func61 (by kernel_rfl) rfl) #[] RacesOfP (fun p hp W => isRace_I p hp W) W0 wi hi wl wu hl hu a c xs (h.below B0) ha ok hxl al cl ps (hp.below B0) hal okp hpl sa sc ss (hs.below B0) hsa oks hsl)
  have HG := hid (show RacesOfG wi hi xs ps ss = withG RacesOfP wi hi xs ps ss from rfl)
  generalize withG RacesOfP wi hi xs ps ss = RR at *
  obtain ⟨R, cd⟩ := RR
  have HB0 := hid B0
  clear h hp hs B0
  go_enter Tryz.func29, Tryz.ntmps29
  go_wp2_with fail
  rw [← hW0]
  clear hW0
  refine H1.out.mono ?_
  rintro e w1 ⟨A, c1, rfl, hb1, own⟩
  have HO := hid own
  have B1 := below_of HB0.out HB0.out.size hb1
  have z0 := HB0.out.size
  clear own
  go_wp2_with fail
  refine bodyPost_ret (v := .tuple #[.slice A R.length c1, .int .i64 cd]) (by simp [results, Tryz.results29, go_sem]) rfl ?_
  rw [HG.out]
  exact ⟨A, c1, rfl, B1, own_low HO.out z0⟩
end Go.Proofs.YtnabedhhflfepaaGreat
