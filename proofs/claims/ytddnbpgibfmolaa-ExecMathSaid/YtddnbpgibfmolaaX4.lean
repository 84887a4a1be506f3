/- exec.Right: may an image be run? -/
import Derived.Test.YtddnbpgibfmolaaX3
import Derived.Test.YtddnbpgibfmolaaM11
namespace Go.Proofs.Ytddnbpgibfmolaa
open Go.RowKit Go.Proofs.YtddnbpgibfmolaaW.PrintWords
set_option linter.unusedVariables false

/-- Where an image lies. -/
structure ImgAt (w : World) (m : Image) (A0 : Option Addr) (c0 : Nat) (A1 : Option Addr) (c1 : Nat) : Prop where
  ents : Kd.C kEntry w A0 m.entries.length m.entries
  e0 : m.entries.length ≤ c0
  code : Kd.C kMi w A1 m.code.length m.code
  e1 : m.code.length ≤ c1
theorem ImgAt.below {w w1 : World} {m : Image} {A0 A1 : Option Addr} {c0 c1 : Nat} (h : ImgAt w m A0 c0 A1 c1) (hb : Below w.heap.size w w1) : ImgAt w1 m A0 c0 A1 c1 :=
  ⟨Kd.C_below h.ents hb, h.e0, Kd.C_below h.code hb, h.e1⟩
/-- What carlingref14.Light, and the kinds of the numbers, say of an image. -/
structure ImgOk (m : Image) : Prop where
  code : m.code.length ≤ 21000
  ents : m.entries.length ≤ 201
  names : ∀ x ∈ m.entries, x.name.size ≤ 100
  params : ∀ x ∈ m.entries, x.params.length ≤ 20
  n : ∀ x ∈ m.code, 0 ≤ x.n ∧ x.n < 4294967296
def entsB (len : Nat) (mem : Int) : ByteArray → List Entry → Bool
  | _, [] => true
  | last, x :: l => entB x len mem && (Op.bytesLess last.toList x.name.toList && entsB len mem x.name l)
theorem ents_eq (len : Nat) (mem : Int) : ∀ (l : List Entry) (last : ByteArray), entsB len mem last l = (l.all (fun x => entB x len mem) && risesB last l) := by
  intro l
  induction l with
  | nil => intro last; rfl
  | cons x l ih =>
    intro last
    unfold entsB risesB
    rw [ih, List.all_cons]
    cases entB x len mem <;> cases Op.bytesLess last.toList x.name.toList <;> simp
theorem img_ents (m : Image) : imgB m = (decide ((mcheckE m.code m.mem).1 = 0) && entsB m.code.length m.mem ⟨#[]⟩ m.entries) := by
  unfold imgB
  rw [ents_eq, Bool.and_assoc]
theorem less_tri : ∀ (a b : List UInt8), (Op.bytesLess a b || a == b) = !(Op.bytesLess b a)
  | [], [] => by simp [Op.bytesLess]
  | a :: x, [] => by simp [Op.bytesLess]
  | [], b :: y => by simp [Op.bytesLess]
  | a :: x, b :: y => by
    have ih := less_tri x y
    unfold Op.bytesLess
    by_cases h1 : a < b
    · have h2 : ¬ b < a := fun h => by have := UInt8.lt_iff_toNat_lt.1 h; have := UInt8.lt_iff_toNat_lt.1 h1; omega
      have h3 : ¬ b = a := fun h => by subst h; exact h2 h1
      simp [h1, h2, h3]
    · by_cases h2 : b < a
      · have h3 : ¬ a = b := fun h => by subst h; exact h1 h2
        simp [h1, h2, h3]
      · obtain rfl : a = b := by
          apply UInt8.toNat.inj
          have e1 : ¬ a.toNat < b.toNat := fun h => h1 (UInt8.lt_iff_toNat_lt.2 h)
          have e2 : ¬ b.toNat < a.toNat := fun h => h2 (UInt8.lt_iff_toNat_lt.2 h)
          omega
        simp only [h1, decide_false, Bool.false_or, BEq.rfl, Bool.true_and, List.cons_beq_cons]
        exact ih
theorem drop_at {α : Type} {xs : List α} {k : Nat} {x : α} (h : xs[k]? = some x) : xs.drop k = x :: xs.drop (k + 1) := by
  obtain ⟨hk, rfl⟩ := List.getElem?_eq_some_iff.1 h
  exact List.drop_eq_getElem_cons hk

set_option maxHeartbeats 16000000 in
set_option maxRecDepth 100000 in
theorem xright_any (m : Image) (A0 : Option Addr) (c0 : Nat) (A1 : Option Addr) (c1 : Nat) (w : World) (hok : ImgOk m) (hat : ImgAt w m A0 c0 A1 c1) :
    Calls Try.prog 17 #[imgV m A0 c0 A1 c1] w fun e w' => e = .returned (.bool (imgB m)) ∧ Below w.heap.size w w' := by
  have HT := Aside0.mk hat
  have HO := Aside0.mk hok
  have hel := hok.ents
  have HI := Aside0.mk (img_ents m)
  have HK := Aside0.mk (fun W hb => mmcheck_any m.code m.mem A1 c1 W (HT.out.below hb).code hok.n)
  have HF := Aside0.mk (fun h => fine_of (l := m.code) (cells := m.mem) h)
  clear hat hok
  have hu := Try.underlying31
  have hu2 := Try.underlying36
  generalize hE : mcheckE m.code m.mem = E at *
  obtain ⟨er, ea⟩ := E
  have HX := Aside0.mk (fun (W : World) (h : Below (w.heap.size + 1) (w.alloc (.cells #[.slice A0 m.entries.length c0, .slice A1 m.code.length c1, .int .i64 m.mem] 31)) W) => (show W.cell? ⟨w.heap.size, 0, none⟩ = some (.slice A0 m.entries.length c0) ∧ W.cell? ⟨w.heap.size, 1, none⟩ = some (.slice A1 m.code.length c1) ∧ W.cell? ⟨w.heap.size, 2, none⟩ = some (.int .i64 m.mem) from
    ⟨box_cells h 0, box_cells h 1, box_cells h 2⟩))
  simp only [imgV] at *
  clear hE
  by_cases he : er = 0
  · subst he
    have HG := Aside0.mk (HF.out rfl)
    have HR := Aside0.mk (fun (x : Entry) (A : Option Addr) (c : Nat) W hs hp => entry_any x A c m A0 c0 A1 c1 W hs hp HG.out.c0 HG.out.c1 HG.out.len)
    simp only [imgV] at HR
    have HI2 := Aside0.mk (show imgB m = entsB m.code.length m.mem ⟨#[]⟩ m.entries by rw [HI.out]; simp)
    generalize hr : entsB m.code.length m.mem ⟨#[]⟩ m.entries = r at *
    have HS0 := Aside0.mk hr
    clear hr HF
    go_enter Try.func17, Try.ntmps17
    go_wp2_with (go_at_call 37; (with_reducible refine (HK.out _ (below_alloc (Below.refl _ _) _)).mono ?_); rintro e w1 ⟨rfl, hB1⟩; have HB1 := Aside0.mk (show Below (w.heap.size + 1) _ w1 from by simpa using hB1); clear hB1; obtain ⟨g0, g1, g2⟩ := HX.out w1 HB1.out)
    go_loopw [5, 21] (fun v5 v21 wr => ∃ (k : Nat) (last : ByteArray), k ≤ m.entries.length ∧ v21 = .int .i64 k ∧ v5 = .string last ∧ Aside0 (entsB m.code.length m.mem last (m.entries.drop k) = r) ∧ Aside0 (Below (w.heap.size + 1) (w.alloc (.cells #[.slice A0 m.entries.length c0, .slice A1 m.code.length c1, .int .i64 m.mem] 31)) wr)) (fun _ v21 _ => m.entries.length - (intOf v21).toNat)
    case atStart => exact ⟨0, ⟨#[]⟩, Nat.zero_le _, rfl, rfl, HS0, HB1⟩
    case round =>
      obtain ⟨k, last, hk, rfl, rfl, HS, HB⟩ := hrel
      clear g0 g1 g2
      obtain ⟨g0, g1, g2⟩ := HX.out wr HB.out
      have hlt0 := box_lt HB.out
      by_cases hlt : k < m.entries.length
      · obtain ⟨x, ad, Ap, cp, rfl, hx, h0, h1, h2, h3, h4, hlp, hCp⟩ := nt_Entry HT.out.ents (below_of_box HB.out) k hlt
        have HD := Aside0.mk (drop_at hx)
        have HN := Aside0.mk (show x.name.size ≤ 140737488351232 by have := HO.out.names x (at_mem hx); omega)
        have HC := Aside0.mk hCp
        have HRx := Aside0.mk (fun W hb => HR.out x Ap cp W HN.out (Kd.C_below HC.out hb))
        clear hx hCp
        have HS2 := Aside0.mk (show (entB x m.code.length m.mem && (Op.bytesLess last.toList x.name.toList && entsB m.code.length m.mem x.name (m.entries.drop (k + 1)))) = r by have := HS.out; rw [HD.out] at this; exact this)
        have HE2 := Aside0.mk (rfl : entB x m.code.length m.mem = entB x m.code.length m.mem)
        generalize hb : entB x m.code.length m.mem = bx at *
        clear hb
        have HQ := Aside0.mk (fun (W : World) (h : Below (wr.alloc (.cells #[.string x.name, .slice Ap x.params.length cp, .int .i64 x.pos, .int .i64 x.base, .int .i64 x.cells] 36)).heap.size (wr.alloc (.cells #[.string x.name, .slice Ap x.params.length cp, .int .i64 x.pos, .int .i64 x.base, .int .i64 x.cells] 36)) W) => (show W.cell? ⟨wr.heap.size, 0, none⟩ = some (.string x.name) from by
          have hb := (h.block wr.heap.size (by simp)).trans (blk_new wr _)
          exact blk_cell hb 0))
        obtain ⟨name, params, pos, base, cells⟩ := x
        simp only at *
        cases bx
        · have HZ := Aside0.mk (show r = false by rw [← HS2.out]; rfl)
          go_wp2_with (go_at_call 38; (with_reducible refine (HRx.out _ (below_alloc (Below.refl _ _) _)).mono ?_); rintro e w2 ⟨rfl, hB2⟩; have HB2 := Aside0.mk (box_step HB.out (below_step (below_alloc (Below.refl _ _) _) hB2)); have q0 := HQ.out w2 hB2; clear hB2)
          go_ret
          exact ⟨ret_bool (by rw [HI2.out, HZ.out]), below_of_box HB2.out⟩
        · have ht := less_tri name.toList last.toList
          cases hls : Op.bytesLess last.toList name.toList
          · have HZ := Aside0.mk (show r = false by rw [← HS2.out, hls]; rfl)
            rw [hls] at ht
            have ht' : (Op.bytesLess name.toList last.toList || name.toList == last.toList) = true := ht
            clear ht hls
            go_wp2_with (go_at_call 38; (with_reducible refine (HRx.out _ (below_alloc (Below.refl _ _) _)).mono ?_); rintro e w2 ⟨rfl, hB2⟩; have HB2 := Aside0.mk (box_step HB.out (below_step (below_alloc (Below.refl _ _) _) hB2)); have q0 := HQ.out w2 hB2; clear hB2)
            go_ret
            exact ⟨ret_bool (by rw [HI2.out, HZ.out]), below_of_box HB2.out⟩
          · have HZ := Aside0.mk (show entsB m.code.length m.mem name (m.entries.drop (k + 1)) = r by rw [← HS2.out, hls]; simp)
            rw [hls] at ht
            have ht' : (Op.bytesLess name.toList last.toList || name.toList == last.toList) = false := ht
            clear ht hls
            go_wp2_with (go_at_call 38; (with_reducible refine (HRx.out _ (below_alloc (Below.refl _ _) _)).mono ?_); rintro e w2 ⟨rfl, hB2⟩; have HB2 := Aside0.mk (box_step HB.out (below_step (below_alloc (Below.refl _ _) _) hB2)); have q0 := HQ.out w2 hB2; clear hB2)
            go_roundw
            case rel => exact ⟨k + 1, name, by omega, by go_num, rfl, HZ, HB2⟩
            case measure => simp [intOf]; omega
      · obtain rfl : m.entries.length = k := by omega
        have HZ := Aside0.mk (show r = true by rw [← HS.out, List.drop_length]; rfl)
        go_wp2
        go_ret
        exact ⟨ret_bool (by rw [HI2.out, HZ.out]), below_of_box HB.out⟩
  · have hne : (er != 0) = true := by simp [he]
    have HZ := Aside0.mk (show imgB m = false by rw [HI.out]; simp [he])
    clear he HF
    go_enter Try.func17, Try.ntmps17
    go_wp2_with (go_at_call 37; (with_reducible refine (HK.out _ (below_alloc (Below.refl _ _) _)).mono ?_); rintro e w1 ⟨rfl, hB1⟩; have HB1 := Aside0.mk (show Below (w.heap.size + 1) _ w1 from by simpa using hB1); clear hB1; obtain ⟨g0, g1, g2⟩ := HX.out w1 HB1.out)
    go_ret
    exact ⟨ret_bool HZ.out.symm, below_of_box HB1.out⟩
end Go.Proofs.Ytddnbpgibfmolaa
