/- A program's contracts, one by one. -/
import Derived.Test.YtlpbalinhikboaaX23
namespace Go.X
open Go

structure Ctr (P : Program) where
  f : FuncId
  s : CSpec
  enters : ∀ args w, (callFunc f args).run P w = .ok (.enter f args) w
  loc : ∀ args id o o', localOn (s.rd args) o o' → s.eff args id o = s.eff args id o'
  sound : CSound P f s

def findC {P : Program} : List (Ctr P) → FuncId → Option CSpec
  | [], _ => none
  | c :: l, f => match Nat.beq c.f f with | true => some c.s | false => findC l f

theorem findC_spec {P : Program} : ∀ {l : List (Ctr P)} {f : FuncId} {s : CSpec}, findC l f = some s → ∃ c : Ctr P, c.f = f ∧ c.s = s
  | c :: l, f, s, h => by
    simp only [findC] at h
    split at h
    · rename_i e; exact ⟨c, by simpa using e, by cases h; rfl⟩
    · exact findC_spec h

def mkEnv (P : Program) (tc : TypeId → Option TC) (l : List (Ctr P)) : Env := { P := P, tc := tc, C := findC l }

theorem mkEnv_ok {P : Program} (hm : P.follows .mixedOrders = true) (tc : TypeId → Option TC) (l : List (Ctr P)) : EnvOk (mkEnv P tc l) where
  mixed := hm
  loc := fun f s h => by obtain ⟨c, rfl, rfl⟩ := findC_spec h; exact c.loc
  enters := fun f s h => by obtain ⟨c, rfl, rfl⟩ := findC_spec h; exact c.enters
  sound := fun f s h => by obtain ⟨c, rfl, rfl⟩ := findC_spec h; exact c.sound

def Ctr.pure {P : Program} {f : FuncId} {ats : List AT} {pre : Dat ats → Prop} {rts : List AT} {out : Dat ats → Dat rts} (h : PureOk P f ats pre rts out)
    (enters : ∀ args w, (callFunc f args).run P w = .ok (.enter f args) w) : Ctr P where
  f := f
  s := pureSpec ats pre rts out
  enters := enters
  loc := pureSpec_loc
  sound := pureSpec_sound h

end Go.X
