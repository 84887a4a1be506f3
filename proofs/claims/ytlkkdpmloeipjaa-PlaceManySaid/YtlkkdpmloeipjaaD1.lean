/- A map[int]int of the call's own as a function; place.taken. -/
import Derived.Test.YtlkkdpmloeipjaaA14
import Derived.Maps.OwnSet
import Derived.Maps.RangeWalk
namespace Go.Proofs.Ytlkkdpmloeipjaa
open Go.RowKit Go.Proofs.YtlkkdpmloeipjaaW.PrintWords Go.Maps
set_option linter.unusedVariables false

abbrev iLit (k : Int) : Lit := .int .i64 k
theorem law_int : Keyed Try.prog 3 := int_keyed Try.underlying3
theorem zero_int (w : World) : (zeroValue 3).run Try.prog w = .ok (.int .i64 0) w := by kernel_rfl
/-- What a datum holds, as a function of the key. -/
def Holds (D : DataW Unit) (f : Int → Option Int) : Prop := ∀ k, Maps.has D (iLit k) = (f k).isSome ∧ ∀ e, f k = some e → ∀ z, D.atKey (iLit k) z = .lit (.int .i64 e)
/-- Block b is a map of at most n entries, from int to int, that holds f. -/
def IMap (w : World) (b n : Nat) (f : Int → Option Int) : Prop := ∃ D : DataW Unit, w.ownsMap Try.prog 3 (plainElem Try.prog 3) b n D ∧ Holds D f
theorem holds_empty : Holds (.map []) (fun _ => none) := fun k => ⟨rfl, fun e h => by cases h⟩
theorem isKey_int (k : Int) : WideAt.IsKeyLit (iLit k) := by simp [iLit, WideAt.IsKeyLit]
theorem iLit_ne {k q : Int} (h : k ≠ q) : iLit k ≠ iLit q := fun e => h (by injection e)
/-- The function with another value at a key. -/
def updF (f : Int → Option Int) (k : Int) (v : Option Int) : Int → Option Int := fun q => if q = k then v else f q
theorem Holds.put {D : DataW Unit} {f : Int → Option Int} (h : Holds D f) (hm : IsMap D) (k e : Int) : Holds (D.put (iLit k) (.lit (.int .i64 e))) (updF f k (some e)) := by
  intro q
  unfold updF
  by_cases hq : q = k
  · subst hq
    rw [if_pos rfl]
    refine ⟨has_put_same hm (isKey_int q) _, fun e' h' z => ?_⟩
    injection h' with h'
    subst h'
    exact atKey_put_same hm (isKey_int q) _ z
  · rw [if_neg hq]
    refine ⟨(has_put_other (iLit_ne hq) _).trans (h q).1, fun e' h' z => ?_⟩
    rw [atKey_put_other (iLit_ne hq)]
    exact (h q).2 e' h' z
theorem Holds.del {D : DataW Unit} {f : Int → Option Int} (h : Holds D f) (k : Int) : Holds (D.del (iLit k)) (updF f k none) := by
  intro q
  unfold updF
  by_cases hq : q = k
  · subst hq
    rw [if_pos rfl]
    exact ⟨has_del_same, fun e' h' => by cases h'⟩
  · rw [if_neg hq]
    refine ⟨(has_del_other (iLit_ne hq)).trans (h q).1, fun e' h' z => ?_⟩
    rw [atKey_del_other (iLit_ne hq)]
    exact (h q).2 e' h' z
theorem IMap.kept {w w1 : World} {b n : Nat} {f : Int → Option Int} (h : IMap w b n f) {row : Option Nat} (hg : w.grownBy w1 row) (hne : some b ≠ row) : IMap w1 b n f := by
  obtain ⟨D, h1, h2⟩ := h
  exact ⟨D, h1.kept hg hne, h2⟩
theorem IMap.lt {w : World} {b n : Nat} {f : Int → Option Int} (h : IMap w b n f) : b < w.heap.size := by
  obtain ⟨D, h1, _⟩ := h
  exact h1.lt
theorem IMap_made (w : World) : IMap (w.alloc (.map #[] 0)) w.heap.size 0 (fun _ => none) := ⟨_, World.ownsMap_made _ _ _ _, holds_empty⟩

theorem taken_any (b n : Nat) (f : Int → Option Int) (p : Int) (w : World) (h : IMap w b n f) (hp : (Lit.int .i64 p).wf = true) :
    Calls Try.prog 52 #[.map (some b), .int .i64 p] w fun e w' => e = .returned (.bool (f p).isSome) ∧ Below w.heap.size w w' := by
  obtain ⟨D, hown, hD⟩ := h
  have HO := Aside0.mk hown
  have HD := Aside0.mk (hD p).1
  clear hown hD
  go_enter Try.func52, Try.ntmps52
  go_wp2_with (at_lookup; refine wpList_lookup_own_ok_int _ rfl _ _ 86 rfl 3 3 .i64 law_int Try.underlying86 Try.underlying3 (zero_int _) b n D rfl HO.out _ _ rfl (keyOf_int_mk Try.underlying3 hp) ?_; intro c hat hwc)
  go_ret
  exact ⟨ret_bool HD.out, Below.refl _ _⟩
end Go.Proofs.Ytlkkdpmloeipjaa
