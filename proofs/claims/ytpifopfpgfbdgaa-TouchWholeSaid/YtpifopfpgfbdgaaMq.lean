/-
  From the machine's run to the model's call at any world. By an AI agent.
-/
import Derived.Test.YtpifopfpgfbdgaaMp
set_option linter.unusedSimpArgs false
set_option linter.unusedVariables false
namespace Go.Mach
open Go.RowKit

/-- The heap at the start: nothing in it. -/
def Heap.empty : Heap := ⟨fun _ => .dead, 0, 0, [], 0⟩

/-- Every block that was there is a frozen one. -/
def memOf (w : World) : Mem := fun b => w.heap[b]?

theorem start_rel (w : World) : Rel (memOf w) noRho Heap.empty w :=
  { mem := fun _ _ h => h, dom := fun i p h => (nomatch h), obj := fun i b sz h => (nomatch h), sep := fun i j b s t _ h => nomatch h }

theorem top {P : Program} {T : Nat → Option AFn} (hT : TabOK P T) {n f : Nat} {args : List AV} {v : AV} {H' : Heap} (h : evalCall T n f args Heap.empty = some (v, H')) {w : World} {args' : Array Value} (hl : args'.size = args.length)
    (ha : ∀ i (h1 : i < args.length) (h2 : i < args'.size), VRel (memOf w) noRho args[i] args'[i]) : Calls P f args' w fun e w' => ∃ v' M' ρ', e = .returned v' ∧ VRel M' ρ' v v' ∧ Below w.heap.size w w' := by
  obtain ⟨_, hc⟩ := call_sound hT n f args _ v H' h
  refine (hc (memOf w) noRho w args' (start_rel w) hl ha).mono fun e w' => ?_
  rintro ⟨v', M', ρ', he, s, hv⟩
  refine ⟨v', M', ρ', he, hv, ⟨s.os, s.tape, s.output, s.size, fun k hk => ?_⟩⟩
  have h1 : memOf w k = some w.heap[k] := Array.getElem?_eq_getElem hk
  rw [s.rel.mem k _ (s.mem k _ h1)]
  exact (Array.getElem?_eq_getElem hk).symm

theorem top_bool {P : Program} {T : Nat → Option AFn} (hT : TabOK P T) {n f : Nat} {args : List AV} {b : Bool} {H' : Heap} (h : evalCall T n f args Heap.empty = some (.bool b, H')) {w : World} {args' : Array Value} (hl : args'.size = args.length)
    (ha : ∀ i (h1 : i < args.length) (h2 : i < args'.size), VRel (memOf w) noRho args[i] args'[i]) : Calls P f args' w fun e w' => e = .returned (.bool b) ∧ Below w.heap.size w w' := by
  refine (top hT h hl ha).mono fun e w' => ?_
  rintro ⟨v', M', ρ', he, hv, hb⟩
  have := hv.inv_bool
  subst this
  exact ⟨he, hb⟩

theorem addr_add0 (b off i : Nat) : (⟨b, off, none⟩ : Addr).add i = ⟨b, off + i, none⟩ := by
  unfold Addr.add
  by_cases h : i = 0
  · subst h; simp
  · simp [h]

/-- A slice of numbers that came in. -/
def sliceOf (k : IntKind) (a : Option Addr) (len : Nat) (zs : List Int) : AV :=
  match a with
  | none => .nils
  | some _ => .vec len false ((zs.take len).map fun n => .int k n)

theorem slice_in {k : IntKind} {w : World} {a : Option Addr} {len cap : Nat} {zs : List Int}
    (h : (a = none ∧ len = 0 ∧ cap = 0 ∧ zs = []) ∨ ∃ x, a = some x ∧ len ≤ cap ∧ cap ≤ maxLen ∧ zs.length = cap ∧ (∀ i, i < zs.length → w.cell? (x.add i) = some (.int k (zs.getD i 0))) ∧ ∀ n ∈ zs, (Lit.int k n).wf = true) :
    VRel (memOf w) noRho (sliceOf k a len zs) (.slice a len cap) := by
  rcases h with ⟨rfl, rfl, rfl, rfl⟩ | ⟨x, rfl, hl, hm, hz, hc, _⟩
  · exact .nils
  · simp only [sliceOf]
    by_cases h0 : len = 0
    · subst h0
      simp only [List.take_zero, List.map_nil]
      exact .vec0 0 cap false x (by simp) (by omega)
    · have h1 := hc 0 (by omega)
      obtain ⟨b, off, spot⟩ := x
      have hspot : spot = none := by simpa [Addr.add] using World.cell?_spot h1
      subst hspot
      have hb : ∃ c T mk, w.heap[b]? = some (.cells c T mk) := by
        simp only [addr_add0, World.cell?] at h1
        cases hh : w.heap[b]? with
        | none => simp [hh] at h1
        | some o =>
          rw [hh] at h1
          cases o <;> simp at h1
          exact ⟨_, _, _, rfl⟩
      obtain ⟨c, T, mk, hb⟩ := hb
      have hget : ∀ i, i < zs.length → c[off + i]? = some (.int k (zs.getD i 0)) := by
        intro i hi
        have := hc i hi
        simpa [addr_add0, World.cell?, hb] using this
      have hlen : ((zs.take len).map fun n => AV.int k n).length = len := by simp; omega
      have hsz : off + zs.length ≤ c.size := by
        have := hget (zs.length - 1) (by omega)
        obtain ⟨h2, _⟩ := Array.getElem?_eq_some_iff.1 this
        omega
      refine .vec len cap false off hb (by rw [hlen]; omega) (fun i h1 => ?_) (fun i h1 h2 => ?_) (by simp) hl
      · simp [AV.isCell]
      · rw [hlen] at h1
        have := hget i (by omega)
        rw [Array.getElem?_eq_getElem h2] at this
        simp only [Option.some.injEq] at this
        rw [this]
        simp only [List.getElem_map, List.getElem_take]
        rw [List.getD_eq_getElem?_getD, List.getElem?_eq_getElem (by omega)]
        exact .int k _

end Go.Mach
namespace Go.Mach
/-- A function of the program, translated. -/
def trFn (P : Program) (f : Nat) : Option (ACode × List ARes × Nat) :=
  match P.funcs[f]? with
  | none => none
  | some fn => if fn.name == "runtime.NumGoroutine" then none else match fn.body with
    | none => none
    | some c => match trCode P fn.ntmps c, trRess P fn.results.toList with
      | some a, some r => some (a, r, fn.ntmps)
      | _, _ => none

def FnOK (P : Program) (f : Nat) (x : Option AFn) : Prop := ∀ fd, x = some fd → trFn P f = some (fd.body, fd.res, fd.ntmps)
theorem FnOK.ite {P : Program} {f : Nat} {c : Prop} [Decidable c] {a b : Option AFn} (h1 : c → FnOK P f a) (h2 : ¬ c → FnOK P f b) : FnOK P f (if c then a else b) := by
  split
  · exact h1 (by assumption)
  · exact h2 (by assumption)
theorem FnOK.leaf {P : Program} {f k : Nat} {a : AFn} (h : trFn P k = some (a.body, a.res, a.ntmps)) : FnOK P f (if f = k then some a else none) := by
  split
  · rename_i e; subst e; intro fd hf; cases hf; exact h
  · intro fd hf; cases hf

theorem tabOK_of {P : Program} {T : Nat → Option AFn} (h : ∀ f fd, T f = some fd → trFn P f = some (fd.body, fd.res, fd.ntmps)) : TabOK P T := by
  intro f fd hf
  have := h f fd hf
  unfold trFn at this
  split at this
  · cases this
  · rename_i fn h1
    split at this
    · cases this
    · rename_i h2
      split at this
      · cases this
      · rename_i c h3
        split at this
        · rename_i a r h4 h5
          simp only [Option.some.injEq, Prod.mk.injEq] at this
          obtain ⟨e1, e2, e3⟩ := this
          subst e1; subst e2
          exact ⟨fn, c, h1, by simpa using h2, h3, e3, by rw [← e3]; exact h4, h5⟩
        · cases this
end Go.Mach
