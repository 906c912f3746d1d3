/- Regions of open order in which nothing is written: no pair of places needs a look. No condition of its own. -/
import Derived.Test.YtipokcccpbcmeaaDoorPvQ
set_option linter.all false
namespace Go.Pv

def Silent (lg : Lg) : Prop := ∀ e, e ∈ lg → e.2 = []
theorem Silent.app {lg : Lg} (h : Silent lg) (rd : List Nat) : Silent (lg ++ [(rd, [])]) := fun e he => by
  rcases List.mem_append.1 he with he | he
  · exact h e he
  · rw [List.mem_singleton.1 he]
theorem Silent.compat {lg : Lg} (h : Silent lg) (un : List (Nat × Nat)) : compat un lg := by
  have key : ∀ k, (lgAt lg k).2 = [] := by
    intro k
    unfold lgAt
    rw [List.getD_eq_getElem?_getD]
    cases hk : lg[k]? with
    | none => rfl
    | some e => exact h e (List.mem_of_getElem? hk)
  intro p _
  exact ⟨fun o ho => (by rw [key] at ho; cases ho), fun o ho => (by rw [key] at ho; cases ho)⟩

section stept
variable {P : Program} {r : List RI} {T : Nat → DV} {H : Hp} {nx : Nat} {K : St → Prop} {uo : List (Nat × Nat)}
end stept

section flow
variable {P : Program} {cx : Cx} {ow : Nat → Bool} {Q : Exit → St → Prop} {s : St} {K : St → Prop} {ris : List RI} {uo : List (Nat × Nat)}
end flow
end Go.Pv
