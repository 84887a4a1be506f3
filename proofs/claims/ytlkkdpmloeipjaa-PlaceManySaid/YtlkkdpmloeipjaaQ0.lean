/- A region that draws, whose operations only read, and whose callees leave a world of a class: one walk of the lexical order. The class is handed to the walk as the range of a map, so that its facts are rewrite rules without a premise. -/
import Derived.Test.YtlkkdpmloeipjaaB3
namespace Go.Proofs.Ytlkkdpmloeipjaa
open Go.RowKit Go.Proofs.YtlkkdpmloeipjaaW.PrintWords

theorem wp_region_class {P : Program} {id : Nat} {Q : Exit → Act → World → Prop} {a : Act} {w : World} {l : List Oper} (S : World → Prop)
    (hm : P.follows .mixedOrders = true) (hB : Region.lexB .any l.toArray = true) (hC : S { w with drawn := w.drawn + 1 })
    (h : ∀ (T : Type) (f : T → World), Nonempty T → (∀ w', S w' ↔ ∃ n, w' = f n) →
      wpQuiet P l.toArray (fun w' => ∃ n, w' = f n) (fun a' => ∀ w', (∃ n, w' = f n) → Q .normal a' w') l a) :
    (Code.region id l.toArray true).wp P Q a w := by
  have hx : ∀ w', S w' ↔ ∃ n : {w // S w}, w' = n.val := fun w' => ⟨fun h => ⟨⟨w', h⟩, rfl⟩, fun ⟨n, hn⟩ => hn ▸ n.property⟩
  exact wp_region_quiet (C := fun w' => ∃ n : {w // S w}, w' = n.val) hm hB ((hx _).1 hC) (by simpa using h {w // S w} Subtype.val ⟨⟨_, hC⟩⟩ hx)
theorem class_mem {S : World → Prop} {T : Type} {f : T → World} (h : ∀ w', S w' ↔ ∃ n, w' = f n) (n : T) : S (f n) := (h _).2 ⟨n, rfl⟩
theorem class_call {P : Program} {g : FuncId} {args : Array Value} {w : World} {v : Value} {S R : World → Prop} {T : Type} {f : T → World} (h : ∀ w', S w' ↔ ∃ n, w' = f n)
    (hc : Calls P g args w fun e w' => e = .returned v ∧ R w') (hR : ∀ w', R w' → S w') : Calls P g args w fun e w'' => e = .returned v ∧ ∃ m, w'' = f m :=
  hc.mono fun _ w' ⟨he, hw⟩ => ⟨he, (h w').1 (hR w' hw)⟩
end Go.Proofs.Ytlkkdpmloeipjaa
