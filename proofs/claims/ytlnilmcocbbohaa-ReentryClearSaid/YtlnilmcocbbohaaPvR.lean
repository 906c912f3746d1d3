/- Regions of open order in which nothing is written: no pair of places needs a look. No condition of its own. -/
import Derived.Test.YtlnilmcocbbohaaPvQ
set_option linter.all false
namespace Go.Pv

def Silent (lg : Lg) : Prop := ∀ e, e ∈ lg → e.2 = []
theorem Silent.app {lg : Lg} (h : Silent lg) (rd : List Nat) : Silent (lg ++ [(rd, [])]) := fun e he => by
  rcases List.mem_append.1 he with he | he
  · exact h e he
  · rw [List.mem_singleton.1 he]
theorem Silent.compat {lg : Lg} (h : Silent lg) (un : List (Nat × Nat)) : compat un lg := by
  have key : ∀ k, (lgAt lg k).2 = [] := by
    intro k
    unfold lgAt
    rw [List.getD_eq_getElem?_getD]
    cases hk : lg[k]? with
    | none => rfl
    | some e => exact h e (List.mem_of_getElem? hk)
  intro p _
  exact ⟨fun o ho => (by rw [key] at ho; cases ho), fun o ho => (by rw [key] at ho; cases ho)⟩

/-- A walk that writes nothing. -/
def awpS (P : Program) (un : List (Nat × Nat)) (ris : List RI) (s : St) (K : St → Prop) : Prop := ∀ lg, Silent lg → awpOps P ris lg s fun lg' s' => compat un lg' ∧ K s'

section stept
variable {P : Program} {r : List RI} {T : Nat → DV} {H : Hp} {nx : Nat} {K : St → Prop} {uo : List (Nat × Nat)}
theorem sw_nil {s : St} (h : K s) : awpS P uo [] s K := fun _ hl => ⟨hl.compat uo, h⟩
theorem sw_no {t : Nat} {op : ROp} {d : DV} (h : ev op true T H nx = some (d, .no)) (k : awpS P uo r ⟨upd T t d, H, nx⟩ K) : awpS P uo (⟨some t, op, none⟩ :: r) ⟨T, H, nx⟩ K := fun _ hl => step_no h (k _ (hl.app _))
theorem sw_g {dt t : Nat} {op : ROp} {wn p : Bool} {d : DV} (hg : gv (T t) wn = some p) (ht : tot op = true) (h : ev op p T H nx = some (d, .no)) (k : awpS P uo r ⟨upd T dt (.gd p d), H, nx⟩ K) :
    awpS P uo (⟨some dt, op, some (t, wn)⟩ :: r) ⟨T, H, nx⟩ K := fun _ hl => step_g hg ht h (k _ (hl.app _))
theorem sw_gc {dt : Nat} {f : RO} {xs : List RO} {t : Nat} {wn p : Bool} {fn : FuncId} {args : List DV} {d : DV} (hc : CallOK P fn args [] nx d [] nx) (hg : gv (T t) wn = some p) (hf : un p (f.get T) = .fn fn []) (ha : xs.map (fun x => un p (x.get T)) = args)
    (k : awpS P uo r ⟨upd T dt (.gd p d), H, nx⟩ K) : awpS P uo (⟨some dt, .call f xs, some (t, wn)⟩ :: r) ⟨T, H, nx⟩ K := fun _ hl => step_gc hc hg hf ha (k _ (hl.app _))
theorem sw_c {dt : Nat} {f : RO} {xs : List RO} {fn : FuncId} {args : List DV} {res : DV} (hc : CallOK P fn args [] nx res [] nx) (hf : un true (f.get T) = .fn fn []) (ha : xs.map (fun x => un true (x.get T)) = args)
    (k : awpS P uo r ⟨upd T dt res, H, nx⟩ K) : awpS P uo (⟨some dt, .call f xs, none⟩ :: r) ⟨T, H, nx⟩ K := fun _ hl => step_c hc hf ha (k _ (hl.app _))
end stept

section flow
variable {P : Program} {cx : Cx} {ow : Nat → Bool} {Q : Exit → St → Prop} {s : St} {K : St → Prop} {ris : List RI} {uo : List (Nat × Nat)}
theorem AWP.rgSN (h : awpS P uo ris s fun s' => s'.nx = s.nx ∧ Q .normal s') : AWP P cx ow (.rg ris (some uo)) Q s := AWP.rg (reg_draw (h [] (fun e he => by cases he)))
theorem AWP.rgS (h : awpS P uo ris s fun s' => s'.nx = s.nx ∧ K s') : AWP P cx ow (.rg ris (some uo)) (thenQ K Q) s := AWP.rgSN h
end flow
end Go.Pv
