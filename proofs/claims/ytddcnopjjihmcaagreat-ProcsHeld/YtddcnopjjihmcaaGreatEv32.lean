import Derived.Test.YtddcnopjjihmcaaGreatEv31
set_option linter.unusedSectionVars false
set_option linter.unusedVariables false
set_option linter.unusedSimpArgs false
namespace Go.Ev
variable {P : Program}

/-! ### a table of functions, and that it is the program's -/
def EntOk (P : Program) (e : Nat × IFunc) : Prop :=
  ∃ fn, P.funcs[e.1]? = some fn ∧ cFunc P fn = some e.2 ∧ ∀ args w, (callFunc e.1 args).run P w = .ok (.enter e.1 args) w

inductive EntsOk (P : Program) : List (Nat × IFunc) → Prop
  | nil : EntsOk P []
  | cons {e l} : EntOk P e → EntsOk P l → EntsOk P (e :: l)

def mkT : List (Nat × IFunc) → PT IFunc
  | [] => .lf
  | e :: l => (mkT l).put (Pos.of e.1) (some e.2)

theorem ents_tab {l : List (Nat × IFunc)} (h : EntsOk P l) : TabOk P (mkT l).get := by
  induction h with
  | nil => intro g fi hg; rw [mkT, PT.get_lf] at hg; cases hg
  | @cons e l h1 _ ih =>
    intro g fi hg
    rw [mkT] at hg
    by_cases he : Pos.of g = Pos.of e.1
    · rw [he, PT.get_put_same] at hg
      have := Pos.of_inj he
      subst this
      cases hg
      exact h1
    · rw [PT.get_put_other _ _ _ _ he] at hg
      exact ih g fi hg
end Go.Ev
