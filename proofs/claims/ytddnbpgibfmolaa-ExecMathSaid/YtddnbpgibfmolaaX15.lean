/- Images that are built out of literals. -/
import Derived.Test.YtddnbpgibfmolaaX13
import Derived.Test.YtddnbpgibfmolaaX14
namespace Go.Proofs.Ytddnbpgibfmolaa
open Go.RowKit Go.Proofs.YtddnbpgibfmolaaW.PrintWords
set_option linter.unusedVariables false

theorem reps_flat {α : Type} {R : α → List Value → Prop} {sz : Nat} (enc : α → List Value) (hlen : ∀ x, (enc x).length = sz) (l : List α) (h : ∀ x ∈ l, R x (enc x)) : Reps R sz l (l.flatMap enc) := by
  have key : ∀ n, n ≤ l.length → Reps R sz (l.take n) ((l.take n).flatMap enc) := by
    intro n
    induction n with
    | zero => intro _; exact Reps.none R sz
    | succ n ih =>
      intro hn
      have hx : l[n]? = some l[n] := List.getElem?_eq_getElem (by omega)
      rw [take_snoc_at hx, List.flatMap_append]
      have := Reps.snoc (ih (by omega)) (h _ (List.getElem_mem (by omega : n < l.length))) (hlen _)
      simpa using this
  have := key l.length (Nat.le_refl _)
  rwa [List.take_length] at this
def miC (x : Mi) : List Value := [.int .i64 x.kind, .int .i64 x.op, .int .i64 x.d, .int .i64 x.a, .int .i64 x.b, .int .u32 x.n]
theorem C_mis {W : World} {g : Nat} {l : List Mi} {cs : Array Value} (h : W.heap[g]? = some (.cells cs 27 (0, 0))) (e : cs.toList = l.flatMap miC) (hl : l.length ≤ 9223372036854775807) : Kd.C kMi W (some ⟨g, 0, none⟩) l.length l :=
  C_blk h (by rw [e]; exact reps_flat miC (fun _ => rfl) l (fun x _ => kMi_mk W x)) hl
def tyC (x : Ty) : List Value := [.bool x.sec, .int .i64 x.len]
theorem C_tys {W : World} {g : Nat} {l : List Ty} {cs : Array Value} (h : W.heap[g]? = some (.cells cs 33 (0, 0))) (e : cs.toList = l.flatMap tyC) (hl : l.length ≤ 9223372036854775807) : Kd.C kTy W (some ⟨g, 0, none⟩) l.length l :=
  C_blk h (by rw [e]; exact reps_flat tyC (fun _ => rfl) l (fun x _ => kTy_mk W x)) hl
theorem C_ent1 {W : World} {g c : Nat} {x : Entry} {A : Option Addr} (h : W.heap[g]? = some (.cells #[.string x.name, .slice A x.params.length c, .int .i64 x.pos, .int .i64 x.base, .int .i64 x.cells] 36 (0, 0))) (hp : Kd.C kTy W A x.params.length x.params) (hc : x.params.length ≤ c) : Kd.C kEntry W (some ⟨g, 0, none⟩) [x].length [x] := by
  refine C_blk (xs := [x]) h ⟨rfl, fun j p hj => ?_⟩ (by simp)
  match j, hj with
  | 0, hj =>
    obtain rfl : x = p := Option.some.inj hj
    exact kEntry_mk W x hc hp
  | j + 1, hj => simp at hj

/-! ### ExecMath -/
def nameAF : ByteArray := ⟨#[97, 46, 102]⟩
def mMath (op : Int) : Image := ⟨[⟨nameAF, [⟨false, 0⟩, ⟨false, 0⟩], 0, 0, 2⟩], [⟨4, 0, 3, 0, 0, 0⟩, ⟨4, 0, 5, 0, 0, 1⟩, ⟨3, op, 0, 3, 5, 0⟩, ⟨9, 0, 0, 0, 0, 0⟩], 2⟩
theorem mMath_ok (op : Int) : ImgOk (mMath op) := ⟨by simp [mMath], by simp [mMath], by simp [mMath]; decide, by simp [mMath], by simp [mMath]⟩
theorem math_tells (op a b : Int) (h1 : 1 ≤ op) (h2 : op ≤ 10) : tellE (mMath op) nameAF [a, b] = ⟨opE op a b, [], [⟨0, 0⟩, ⟨1, 1⟩, ⟨2, -1⟩, ⟨3, -1⟩], 0⟩ := by
  rcases (show op = 1 ∨ op = 2 ∨ op = 3 ∨ op = 4 ∨ op = 5 ∨ op = 6 ∨ op = 7 ∨ op = 8 ∨ op = 9 ∨ op = 10 by omega) with rfl | rfl | rfl | rfl | rfl | rfl | rfl | rfl | rfl | rfl
  all_goals kernel_rfl
end Go.Proofs.Ytddnbpgibfmolaa
