/- The built-in functions, all of them. -/
import Derived.Test.YtnioalecffkedaaAm17b
set_option linter.unusedVariables false
set_option linter.unusedSimpArgs false
namespace Go.AM

variable {R : Type}

section
variable {P : Program} {tt : TT} {ρ : Operand → AV} {rd : Nat → BS} {nx : Nat} {k : AopK R} {r : R} {o : Oper} {c : Call} {b : Builtin}

theorem abuilt_ok (htt : TTok P tt) (hnx : rd nx = .none) (ho : o.op = .call c) (hc : c.callee = .builtin b) (h : abuiltK tt rd nx b c.argTypes.toList (c.args.toList.map ρ) k = some r) : Good P o ρ rd k r := by
  generalize hargs : c.args.toList.map ρ = args at h
  generalize hts : c.argTypes.toList = ts at h
  cases b with
  | len =>
    cases args with
    | nil => cases h
    | cons x l => cases l with
      | cons y l => cases h
      | nil => cases ts with
        | nil => cases h
        | cons t tr => cases tr with
          | cons t2 tr => cases h
          | nil => exact ablen_ok htt ho hc hargs hts h
  | append =>
    cases args with
    | nil => cases h
    | cons x l => cases l with
      | nil => cases h
      | cons y l => cases l with
        | cons z l => cases h
        | nil => cases ts with
          | nil => cases h
          | cons t tr => exact abappend_ok htt hnx ho hc hargs hts h
  | copy =>
    cases args with
    | nil => cases h
    | cons x l => cases l with
      | nil => cases h
      | cons y l => cases l with
        | cons z l => cases h
        | nil => cases ts with
          | nil => cases h
          | cons t tr => exact abcopy_ok htt ho hc hargs hts h
  | clear =>
    cases args with
    | nil => cases h
    | cons x l => cases l with
      | cons y l => cases h
      | nil => cases ts with
        | nil => cases h
        | cons t tr => cases tr with
          | cons t2 tr => cases h
          | nil => exact abclear_ok htt ho hc hargs hts h
  | complex => exact abnum_ok ho hc hargs hts (.inl rfl) h
  | real => exact abnum_ok ho hc hargs hts (.inr (.inl rfl)) h
  | imag => exact abnum_ok ho hc hargs hts (.inr (.inr (.inl rfl))) h
  | min => exact abnum_ok ho hc hargs hts (.inr (.inr (.inr (.inl rfl)))) h
  | max => exact abnum_ok ho hc hargs hts (.inr (.inr (.inr (.inr rfl)))) h
  | _ => simp [abuiltK] at h

end
end Go.AM
