/- exec's step: the walk, kind by kind. -/
import Derived.Test.YtddnbpgibfmolaaX8
import Derived.Test.YtddnbpgibfmolaaX6
import Derived.RegionTactic
import Derived.BigRegion
import Derived.Outline
namespace Go.Proofs.Ytddnbpgibfmolaa
open Go.RowKit Go.Proofs.YtddnbpgibfmolaaW.PrintWords
set_option linter.unusedVariables false

theorem step_boxes (w : World) (g : Nat) (v : Value) (o1 o2 : Go.Obj) : ((((w.setCell ⟨g, 11, none⟩ v).alloc o1).alloc o2).drew).heap[w.heap.size]? = some o1 ∧ ((((w.setCell ⟨g, 11, none⟩ v).alloc o1).alloc o2).drew).heap[w.heap.size + 1]? = some o2 := by
  have h1 := blk_alloc (blk_new (w.setCell ⟨g, 11, none⟩ v) o1) o2
  have h2 := blk_new1 (w.setCell ⟨g, 11, none⟩ v) o1 o2
  rw [sz_set] at h1 h2
  exact ⟨blk_drew h1, blk_drew h2⟩
theorem MW.reg {w0 w : World} {B g gl gm : Nat} {cv bv lv : Value} {s : MSt} {out : List Leak} (h : MW w0 w B g gl gm cv bv lv s out) {d : Nat} (hd : d < 8) : w.cell? ⟨g, 2 + d, none⟩ = some (.int .u32 (gt s.regs d)) := (blk_cell h.box (2 + d)).trans (mach_get hd)
theorem MW.cell {w0 w : World} {B g gl gm : Nat} {cv bv lv : Value} {s : MSt} {out : List Leak} (h : MW w0 w B g gl gm cv bv lv s out) {n : Nat} (hn : n < s.mem.length) : w.cell? ⟨gm, n, none⟩ = some (.int .u32 (gt s.mem n)) := by
  rw [blk_cell h.mrow n]
  simp [gt, hn, List.getD]
theorem MW.setmem {w0 w : World} {B g gl gm : Nat} {cv bv lv : Value} {s : MSt} {out : List Leak} (h : MW w0 w B g gl gm cv bv lv s out) (n : Nat) (v : Int) : MW w0 (w.setCell ⟨gm, n, none⟩ (.int .u32 v)) B g gl gm cv bv lv ⟨s.regs, pt s.mem n v, s.back, s.pos, s.over, s.far⟩ out := by
  have hm := blk_put h.mrow n (.int .u32 v) rfl
  have e : ((s.mem.map (Value.int .u32)).toArray.setIfInBounds n (.int .u32 v)) = ((pt s.mem n v).map (Value.int .u32)).toArray := by
    apply Array.ext'
    simp [pt]
  rw [e] at hm
  refine ⟨h.below.setCell h.bm _, by rw [sz_set]; exact h.hB, h.bg, h.bl, h.bm, ?_, hm, Kd.R_set h.back h.mrow (by decide) n _, blk_far h.lbox (blk_ne h.lbox h.mrow (by decide)) _, Kd.R_set h.lrow h.mrow (by decide) n _⟩
  simp only [pt_length]
  exact blk_far h.box (blk_ne h.box h.mrow (by decide)) _
theorem MW.far {w0 w : World} {B g gl gm : Nat} {cv bv lv : Value} {s : MSt} {out : List Leak} {m : Nat} (h : MW w0 w B g gl gm cv bv lv s out) (hlr : kLeak.R 48 w B (fun k => k < m) lv out) (hbr : (Kd.int .i64).R 3 w B (fun k => k < m) bv s.back) (hg : g < m) (hgl : gl < m) (hgm : gm < m) (p : Nat) (j : Nat) (hp : m ≤ p) (u : Value) : MW w0 (w.setCell ⟨p, j, none⟩ u) B g gl gm cv bv lv s out :=
  ⟨h.below.setCell (Nat.le_trans h.bg (by show g ≤ p; omega)) _, by rw [sz_set]; exact h.hB, h.bg, h.bl, h.bm, blk_far h.box (by show g ≠ p; omega) _, blk_far h.mrow (by show gm ≠ p; omega) _, Kd.R_mono (Kd.R_far hbr (p := ⟨p, j, none⟩) (fun k hk => by show k ≠ p; omega) u) (fun _ _ => trivial), blk_far h.lbox (by show gl ≠ p; omega) _, Kd.R_mono (Kd.R_far hlr (p := ⟨p, j, none⟩) (fun k hk => by show k ≠ p; omega) u) (fun _ _ => trivial)⟩
theorem MW.rows {w0 w : World} {B g gl gm : Nat} {cv bv lv : Value} {s : MSt} {out : List Leak} (h : MW w0 w B g gl gm cv bv lv s out) (v : Value) (o1 o2 : Go.Obj) :
    kLeak.R 48 ((((w.setCell ⟨g, 11, none⟩ v).alloc o1).alloc o2).drew) B (fun k => k < w.heap.size) lv out ∧ (Kd.int .i64).R 3 ((((w.setCell ⟨g, 11, none⟩ v).alloc o1).alloc o2).drew) B (fun k => k < w.heap.size) bv s.back := by
  have hb : Below (w.setCell ⟨g, 11, none⟩ v).heap.size (w.setCell ⟨g, 11, none⟩ v) ((((w.setCell ⟨g, 11, none⟩ v).alloc o1).alloc o2).drew) := below_drew1 (below_alloc (below_alloc (Below.refl _ _) _) _)
  exact ⟨Kd.R_below (Kd.R_set (Kd.R_mono (Kd.R_bound h.lrow) (fun k hk => hk.2.2.1)) h.box (by decide) 11 v) hb, Kd.R_below (Kd.R_set (Kd.R_mono (Kd.R_bound h.back) (fun k hk => hk.2.2.1)) h.box (by decide) 11 v) hb⟩
theorem keep2 {wd w1 : World} {o x1 x2 : Go.Obj} {g1 g2 : Nat} {r : Option Nat} (h : wd.heap[g1]? = some x1 ∧ wd.heap[g2]? = some x2) (hg : (wd.alloc o).drew.grownBy w1 r) (hn : some g1 ≠ r ∧ some g2 ≠ r) : w1.heap[g1]? = some x1 ∧ w1.heap[g2]? = some x2 :=
  ⟨blk_grown (w := (wd.alloc o).drew) (blk_drew (blk_alloc h.1 o)) hg hn.1, blk_grown (w := (wd.alloc o).drew) (blk_drew (blk_alloc h.2 o)) hg hn.2⟩
theorem OwnI.opened {w : World} {B m cb : Nat} {A : Option Addr} {xs : List Int} (h : OwnI w B (.slice A m cb) xs) (hp : 0 < xs.length) : ∃ gb, A = some ⟨gb, 0, none⟩ ∧ m = xs.length ∧ xs.length ≤ cb ∧ (∀ (j : Nat) (x : Int), xs[j]? = some x → w.cell? ⟨gb, j, none⟩ = some (.int .i64 x)) ∧ ∃ cells, w.heap[gb]? = some (.cells cells 3 (0, 0)) := by
  obtain ⟨hl, h2⟩ := Kd.own_of_R h
  rcases h2 with ⟨_, h0⟩ | ⟨g, cap, cur, e, hb, hh, hnc, hcap, hsz, htk⟩
  · omega
  · injection e with e1 e2 e3
    subst e1 e3
    refine ⟨g, rfl, e2, hnc, fun j x hj => ?_, cur, hh⟩
    have hjl := (List.getElem?_eq_some_iff.1 hj).1
    have h3 : (cur.toList.take (xs.length * 1))[j]? = some (.int .i64 x) := by rw [htk]; simp [encs, hj]
    rw [List.getElem?_take_of_lt (by omega), Array.getElem?_toList] at h3
    exact (blk_cell hh j).trans h3
theorem MW.push {w0 w w1 : World} {B g gl gm : Nat} {cv bv lv v1 : Value} {s : MSt} {out : List Leak} {x : Int} (h : MW w0 w B g gl gm cv bv lv s out) (hR : OwnI w1 B v1 (s.back ++ [x])) (hB : Below B w0 w1) (hg : w.grownBy w1 bv.ownBlock) :
    MW w0 (w1.setCell ⟨g, 10, none⟩ v1) B g gl gm cv v1 lv ⟨s.regs, s.mem, s.back ++ [x], s.pos, s.over, s.far⟩ out ∧ w1.heap[g]? = some (.cells (machC cv (.slice (some ⟨gm, 0, none⟩) s.mem.length s.mem.length) bv s.regs s.pos s.over s.far) 76 (0, 0)) := by
  have hsz := hg.size
  have b1 := blk_grown h.box hg (Kd.R_ne h.back h.box (by decide))
  have b2 := blk_grown h.mrow hg (Kd.R_ne h.back h.mrow (by decide))
  have b3 := blk_grown h.lbox hg (Kd.R_ne h.back h.lbox (by decide))
  have b4 := own_apart h.lrow h.back (by decide) hg
  refine ⟨⟨hB.setCell h.bg _, ?_, h.bg, h.bl, h.bm, blk_put b1 10 v1 rfl, blk_far b2 (blk_ne b2 b1 (by decide)) _, Kd.R_set hR b1 (by decide) 10 _, blk_far b3 (blk_ne b3 b1 (by decide)) _, Kd.R_set b4 b1 (by decide) 10 _⟩, b1⟩
  rw [sz_set]
  exact Nat.le_trans h.hB hsz
theorem OwnI.take {w : World} {B q m cb : Nat} {A : Option Addr} {xs : List Int} (h : OwnI w B (.slice A m cb) xs) (hq : q ≤ xs.length) (hp : 0 < xs.length) : OwnI w B (.slice A q cb) (xs.take q) := by
  have ho := Kd.own_of_R h
  obtain ⟨hl, h2⟩ := ho
  rcases h2 with ⟨_, h0⟩ | ⟨g, cap, cur, e, hb, hh, hnc, hcap, hsz, htk⟩
  · omega
  · injection e with e1 e2 e3
    subst e1 e3
    have hlen : (xs.take q).length = q := by rw [List.length_take]; omega
    refine Kd.R_of_own ⟨by rw [encs_length]; omega, .inr ⟨g, cb, cur, by rw [hlen], hb, hh, by omega, hcap, hsz, ?_⟩⟩ (fun _ _ => trivial)
    rw [hlen]
    have e4 : cur.toList.take (q * 1) = (cur.toList.take (xs.length * 1)).take q := by rw [List.take_take]; congr 1; omega
    rw [e4, htk]
    simp [encs, List.map_take]
theorem MW.pop {w0 w : World} {B g gl gm q m cb : Nat} {A : Option Addr} {cv lv : Value} {s : MSt} {out : List Leak} (h : MW w0 w B g gl gm cv (.slice A m cb) lv s out) (hq : q ≤ s.back.length) (hp : 0 < s.back.length) :
    MW w0 (w.setCell ⟨g, 10, none⟩ (.slice A q cb)) B g gl gm cv (.slice A q cb) lv ⟨s.regs, s.mem, s.back.take q, s.pos, s.over, s.far⟩ out :=
  ⟨h.below.setCell h.bg _, by rw [sz_set]; exact h.hB, h.bg, h.bl, h.bm, blk_put h.box 10 _ rfl, blk_far h.mrow (blk_ne h.mrow h.box (by decide)) _, Kd.R_set (OwnI.take h.back hq hp) h.box (by decide) 10 _, blk_far h.lbox (blk_ne h.lbox h.box (by decide)) _, Kd.R_set h.lrow h.box (by decide) 10 _⟩
set_option maxRecDepth 100000 in
set_option maxHeartbeats 8000000 in
theorem step_1 (o : Int) (d a b n : Nat) (code : List Mi) (k : Nat) (A : Option Addr) (c : Nat) (w0 w : World) (B g gl gm : Nat) (bv lv : Value) (s : MSt) (out : List Leak) (h : MW w0 w B g gl gm (.slice A code.length c) bv lv s out) (hl : out.length ≤ 1500000)
    (hC : Kd.C kMi w A code.length code) (hx : code[k]? = some ⟨1, o, d, a, b, n⟩) (hk : s.pos = k) (hn : n < 4294967296) (hr : s.regs.length = 8) (hd : d < 8) (ha : a < 8) (hb : b < 8) :
    Calls Try.prog 35 #[.pointer (some ⟨g, 0, none⟩), .func (.func 36) #[] #[.pointer (some ⟨gl, 0, none⟩)]] w fun e w' => e = .returned (.tuple #[]) ∧ ∃ bv' lv', MW w0 w' B g gl gm (.slice A code.length c) bv' lv' (doE ⟨1, o, d, a, b, n⟩ s) (out ++ [leakOf ⟨1, o, d, a, b, n⟩ s.pos]) := by
  obtain ⟨regs, mem, back, pos, over, far⟩ := s
  simp only at hk hr
  subst hk
  have hlt := (List.getElem?_eq_some_iff.1 hx).1
  have hcl := hC.2.1
  obtain ⟨x, ad, rfl, hx', c0, c1, c2, c3, c4, c5⟩ := nt_Mi hC (Below.refl _ _) k hlt
  obtain rfl : (⟨1, o, d, a, b, n⟩ : Mi) = x := by rw [hx] at hx'; exact Option.some.inj hx'
  simp only at c0 c1 c2 c3 c4 c5
  have H := Aside0.mk h
  have g0 : w.cell? ⟨g, 0, none⟩ = some (.slice (some ad) code.length c) := blk_cell h.box 0
  have g11 : w.cell? ⟨g, 11, none⟩ = some (.int .i64 k) := blk_cell h.box 11
  have f11 := blk_frozen h.box 11
  have hglt := blk_lt h.box
  have hmlt := blk_lt h.mrow
  have HR := Aside0.mk hr
  have L0 := fun o => pw_cell_below (below_alloc (Below.refl w.heap.size w) o) c0
  have L1 := fun o => pw_cell_below (below_alloc (Below.refl w.heap.size w) o) c1
  have L2 := fun o => pw_cell_below (below_alloc (Below.refl w.heap.size w) o) c2
  have L3 := fun o => pw_cell_below (below_alloc (Below.refl w.heap.size w) o) c3
  have L4 := fun o => pw_cell_below (below_alloc (Below.refl w.heap.size w) o) c4
  have L5 := fun o => pw_cell_below (below_alloc (Below.refl w.heap.size w) o) c5
  clear hx hx' hC h hr
  have hu := Try.underlying27
  have hu2 := Try.underlying48
  have hu3 := Try.underlying76
  go_enter Try.func35, Try.ntmps35
  go_wp2
  go_region
  go_upto_region 3 with (fail)
  have HM := Aside0.mk (MW.drew (MW.alloc (MW.alloc (MW.upd (j := 11) (u := .int .i64 ((k : Int) + 1)) (r := regs) (p := (k : Int) + 1) (ov := over) (fr := far) H.out rfl) (.cells #[.int .i64 1, .int .i64 o, .int .i64 d, .int .i64 a, .int .i64 b, .int .u32 n] 27 (0, 0))) (.cells #[.int .i64 k, .int .i64 (-1)] 48 (0, 0))))
  have HRw := Aside0.mk (MW.rows H.out (.int .i64 ((k : Int) + 1)) (.cells #[.int .i64 1, .int .i64 o, .int .i64 d, .int .i64 a, .int .i64 b, .int .u32 n] 27 (0, 0)) (.cells #[.int .i64 k, .int .i64 (-1)] 48 (0, 0)))
  have hllt := blk_lt H.out.lbox
  have HBx := Aside0.mk (step_boxes w g (.int .i64 ((k : Int) + 1)) (.cells #[.int .i64 1, .int .i64 o, .int .i64 d, .int .i64 a, .int .i64 b, .int .u32 n] 27 (0, 0)) (.cells #[.int .i64 k, .int .i64 (-1)] 48 (0, 0)))
  generalize (((w.setCell ⟨g, 11, none⟩ (.int .i64 ((k : Int) + 1))).alloc (.cells #[.int .i64 1, .int .i64 o, .int .i64 d, .int .i64 a, .int .i64 b, .int .u32 n] 27 (0, 0))).alloc (.cells #[.int .i64 k, .int .i64 (-1)] 48 (0, 0))).drew = wc at *
  clear c0 c1 c2 c3 c4 c5 L0 L1 L2 L3 L4 L5 g0 g11 f11 H
  have m0 : wc.cell? ⟨w.heap.size, 0, none⟩ = some (.int .i64 1) := blk_cell HBx.out.1 0
  have m1 : wc.cell? ⟨w.heap.size, 1, none⟩ = some (.int .i64 o) := blk_cell HBx.out.1 1
  have m2 : wc.cell? ⟨w.heap.size, 2, none⟩ = some (.int .i64 d) := blk_cell HBx.out.1 2
  have m3 : wc.cell? ⟨w.heap.size, 3, none⟩ = some (.int .i64 a) := blk_cell HBx.out.1 3
  have m4 : wc.cell? ⟨w.heap.size, 4, none⟩ = some (.int .i64 b) := blk_cell HBx.out.1 4
  have m5 : wc.cell? ⟨w.heap.size, 5, none⟩ = some (.int .u32 n) := blk_cell HBx.out.1 5
  have l0 : wc.cell? ⟨w.heap.size + 1, 0, none⟩ = some (.int .i64 k) := blk_cell HBx.out.2 0
  have l1 : wc.cell? ⟨w.heap.size + 1, 1, none⟩ = some (.int .i64 (-1)) := blk_cell HBx.out.2 1
  have hne1 : ¬ g = w.heap.size := by omega
  have hne2 : ¬ g = w.heap.size + 1 := by omega
  have hne3 : ¬ w.heap.size = g := by omega
  have hne4 : ¬ w.heap.size + 1 = g := by omega
  have hwn : IntKind.i64.wrap (n : Int) = (n : Int) := IntWalk.i64_in _ (by omega)
  have rd : wc.cell? ⟨g, 2 + d, none⟩ = some (.int .u32 (gt regs d)) := HM.out.reg hd
  have fd := blk_frozen HM.out.box (2 + d)
  go_wp2
  go_region
  go_wp2_with (go_at_call 36; (with_reducible refine (keep_any ⟨(k : Int), (-1 : Int)⟩ w0 _ B g gl gm _ _ lv _ out (MW.drew (MW.upd (j := 2 + d) (r := pt regs d n) (p := (k : Int) + 1) (ov := over) (fr := far) HM.out (mach_reg HR.out hd))) hl).mono ?_); rintro e w2 ⟨rfl, lv', hM2⟩; have HM2 := Aside0.mk hM2; clear hM2)
  go_end0
  exact ⟨rfl, _, _, HM2.out⟩
set_option maxRecDepth 100000 in
set_option maxHeartbeats 8000000 in
theorem step_2 (o : Int) (d a b n : Nat) (code : List Mi) (k : Nat) (A : Option Addr) (c : Nat) (w0 w : World) (B g gl gm : Nat) (bv lv : Value) (s : MSt) (out : List Leak) (h : MW w0 w B g gl gm (.slice A code.length c) bv lv s out) (hl : out.length ≤ 1500000)
    (hC : Kd.C kMi w A code.length code) (hx : code[k]? = some ⟨2, o, d, a, b, n⟩) (hk : s.pos = k) (hn : n < 4294967296) (hr : s.regs.length = 8) (hd : d < 8) (ha : a < 8) (hb : b < 8) :
    Calls Try.prog 35 #[.pointer (some ⟨g, 0, none⟩), .func (.func 36) #[] #[.pointer (some ⟨gl, 0, none⟩)]] w fun e w' => e = .returned (.tuple #[]) ∧ ∃ bv' lv', MW w0 w' B g gl gm (.slice A code.length c) bv' lv' (doE ⟨2, o, d, a, b, n⟩ s) (out ++ [leakOf ⟨2, o, d, a, b, n⟩ s.pos]) := by
  obtain ⟨regs, mem, back, pos, over, far⟩ := s
  simp only at hk hr
  subst hk
  have hlt := (List.getElem?_eq_some_iff.1 hx).1
  have hcl := hC.2.1
  obtain ⟨x, ad, rfl, hx', c0, c1, c2, c3, c4, c5⟩ := nt_Mi hC (Below.refl _ _) k hlt
  obtain rfl : (⟨2, o, d, a, b, n⟩ : Mi) = x := by rw [hx] at hx'; exact Option.some.inj hx'
  simp only at c0 c1 c2 c3 c4 c5
  have H := Aside0.mk h
  have g0 : w.cell? ⟨g, 0, none⟩ = some (.slice (some ad) code.length c) := blk_cell h.box 0
  have g11 : w.cell? ⟨g, 11, none⟩ = some (.int .i64 k) := blk_cell h.box 11
  have f11 := blk_frozen h.box 11
  have hglt := blk_lt h.box
  have hmlt := blk_lt h.mrow
  have HR := Aside0.mk hr
  have L0 := fun o => pw_cell_below (below_alloc (Below.refl w.heap.size w) o) c0
  have L1 := fun o => pw_cell_below (below_alloc (Below.refl w.heap.size w) o) c1
  have L2 := fun o => pw_cell_below (below_alloc (Below.refl w.heap.size w) o) c2
  have L3 := fun o => pw_cell_below (below_alloc (Below.refl w.heap.size w) o) c3
  have L4 := fun o => pw_cell_below (below_alloc (Below.refl w.heap.size w) o) c4
  have L5 := fun o => pw_cell_below (below_alloc (Below.refl w.heap.size w) o) c5
  clear hx hx' hC h hr
  have hu := Try.underlying27
  have hu2 := Try.underlying48
  have hu3 := Try.underlying76
  go_enter Try.func35, Try.ntmps35
  go_wp2
  go_region
  go_upto_region 3 with (fail)
  have HM := Aside0.mk (MW.drew (MW.alloc (MW.alloc (MW.upd (j := 11) (u := .int .i64 ((k : Int) + 1)) (r := regs) (p := (k : Int) + 1) (ov := over) (fr := far) H.out rfl) (.cells #[.int .i64 2, .int .i64 o, .int .i64 d, .int .i64 a, .int .i64 b, .int .u32 n] 27 (0, 0))) (.cells #[.int .i64 k, .int .i64 (-1)] 48 (0, 0))))
  have HRw := Aside0.mk (MW.rows H.out (.int .i64 ((k : Int) + 1)) (.cells #[.int .i64 2, .int .i64 o, .int .i64 d, .int .i64 a, .int .i64 b, .int .u32 n] 27 (0, 0)) (.cells #[.int .i64 k, .int .i64 (-1)] 48 (0, 0)))
  have hllt := blk_lt H.out.lbox
  have HBx := Aside0.mk (step_boxes w g (.int .i64 ((k : Int) + 1)) (.cells #[.int .i64 2, .int .i64 o, .int .i64 d, .int .i64 a, .int .i64 b, .int .u32 n] 27 (0, 0)) (.cells #[.int .i64 k, .int .i64 (-1)] 48 (0, 0)))
  generalize (((w.setCell ⟨g, 11, none⟩ (.int .i64 ((k : Int) + 1))).alloc (.cells #[.int .i64 2, .int .i64 o, .int .i64 d, .int .i64 a, .int .i64 b, .int .u32 n] 27 (0, 0))).alloc (.cells #[.int .i64 k, .int .i64 (-1)] 48 (0, 0))).drew = wc at *
  clear c0 c1 c2 c3 c4 c5 L0 L1 L2 L3 L4 L5 g0 g11 f11 H
  have m0 : wc.cell? ⟨w.heap.size, 0, none⟩ = some (.int .i64 2) := blk_cell HBx.out.1 0
  have m1 : wc.cell? ⟨w.heap.size, 1, none⟩ = some (.int .i64 o) := blk_cell HBx.out.1 1
  have m2 : wc.cell? ⟨w.heap.size, 2, none⟩ = some (.int .i64 d) := blk_cell HBx.out.1 2
  have m3 : wc.cell? ⟨w.heap.size, 3, none⟩ = some (.int .i64 a) := blk_cell HBx.out.1 3
  have m4 : wc.cell? ⟨w.heap.size, 4, none⟩ = some (.int .i64 b) := blk_cell HBx.out.1 4
  have m5 : wc.cell? ⟨w.heap.size, 5, none⟩ = some (.int .u32 n) := blk_cell HBx.out.1 5
  have l0 : wc.cell? ⟨w.heap.size + 1, 0, none⟩ = some (.int .i64 k) := blk_cell HBx.out.2 0
  have l1 : wc.cell? ⟨w.heap.size + 1, 1, none⟩ = some (.int .i64 (-1)) := blk_cell HBx.out.2 1
  have hne1 : ¬ g = w.heap.size := by omega
  have hne2 : ¬ g = w.heap.size + 1 := by omega
  have hne3 : ¬ w.heap.size = g := by omega
  have hne4 : ¬ w.heap.size + 1 = g := by omega
  have hwn : IntKind.i64.wrap (n : Int) = (n : Int) := IntWalk.i64_in _ (by omega)
  have rd : wc.cell? ⟨g, 2 + d, none⟩ = some (.int .u32 (gt regs d)) := HM.out.reg hd
  have fd := blk_frozen HM.out.box (2 + d)
  have ra : wc.cell? ⟨g, 2 + a, none⟩ = some (.int .u32 (gt regs a)) := HM.out.reg ha
  go_wp2
  go_region
  go_wp2_with (go_at_call 36; (with_reducible refine (keep_any ⟨(k : Int), (-1 : Int)⟩ w0 _ B g gl gm _ _ lv _ out (MW.drew (MW.upd (j := 2 + d) (r := pt regs d (gt regs a)) (p := (k : Int) + 1) (ov := over) (fr := far) HM.out (mach_reg HR.out hd))) hl).mono ?_); rintro e w2 ⟨rfl, lv', hM2⟩; have HM2 := Aside0.mk hM2; clear hM2)
  go_end0
  exact ⟨rfl, _, _, HM2.out⟩
set_option maxRecDepth 100000 in
set_option maxHeartbeats 8000000 in
theorem step_3 (o : Int) (d a b n : Nat) (code : List Mi) (k : Nat) (A : Option Addr) (c : Nat) (w0 w : World) (B g gl gm : Nat) (bv lv : Value) (s : MSt) (out : List Leak) (h : MW w0 w B g gl gm (.slice A code.length c) bv lv s out) (hl : out.length ≤ 1500000)
    (hC : Kd.C kMi w A code.length code) (hx : code[k]? = some ⟨3, o, d, a, b, n⟩) (hk : s.pos = k) (hn : n < 4294967296) (hr : s.regs.length = 8) (hd : d < 8) (ha : a < 8) (hb : b < 8) (ho : 1 ≤ o) (ho2 : o ≤ 10) (h32 : ∀ r ∈ s.regs, u32 r) :
    Calls Try.prog 35 #[.pointer (some ⟨g, 0, none⟩), .func (.func 36) #[] #[.pointer (some ⟨gl, 0, none⟩)]] w fun e w' => e = .returned (.tuple #[]) ∧ ∃ bv' lv', MW w0 w' B g gl gm (.slice A code.length c) bv' lv' (doE ⟨3, o, d, a, b, n⟩ s) (out ++ [leakOf ⟨3, o, d, a, b, n⟩ s.pos]) := by
  obtain ⟨regs, mem, back, pos, over, far⟩ := s
  simp only at hk hr h32
  subst hk
  have hlt := (List.getElem?_eq_some_iff.1 hx).1
  have hcl := hC.2.1
  obtain ⟨x, ad, rfl, hx', c0, c1, c2, c3, c4, c5⟩ := nt_Mi hC (Below.refl _ _) k hlt
  obtain rfl : (⟨3, o, d, a, b, n⟩ : Mi) = x := by rw [hx] at hx'; exact Option.some.inj hx'
  simp only at c0 c1 c2 c3 c4 c5
  have H := Aside0.mk h
  have g0 : w.cell? ⟨g, 0, none⟩ = some (.slice (some ad) code.length c) := blk_cell h.box 0
  have g11 : w.cell? ⟨g, 11, none⟩ = some (.int .i64 k) := blk_cell h.box 11
  have f11 := blk_frozen h.box 11
  have hglt := blk_lt h.box
  have hmlt := blk_lt h.mrow
  have HR := Aside0.mk hr
  have L0 := fun o => pw_cell_below (below_alloc (Below.refl w.heap.size w) o) c0
  have L1 := fun o => pw_cell_below (below_alloc (Below.refl w.heap.size w) o) c1
  have L2 := fun o => pw_cell_below (below_alloc (Below.refl w.heap.size w) o) c2
  have L3 := fun o => pw_cell_below (below_alloc (Below.refl w.heap.size w) o) c3
  have L4 := fun o => pw_cell_below (below_alloc (Below.refl w.heap.size w) o) c4
  have L5 := fun o => pw_cell_below (below_alloc (Below.refl w.heap.size w) o) c5
  clear hx hx' hC h hr
  have hu := Try.underlying27
  have hu2 := Try.underlying48
  have hu3 := Try.underlying76
  have HUA := Aside0.mk (h32 _ (gt_mem (i := (a : Int)) (by omega) (by have := HR.out; omega)))
  have HUB := Aside0.mk (h32 _ (gt_mem (i := (b : Int)) (by omega) (by have := HR.out; omega)))
  clear h32
  go_enter Try.func35, Try.ntmps35
  go_wp2
  go_region
  go_upto_region 3 with (fail)
  have HM := Aside0.mk (MW.drew (MW.alloc (MW.alloc (MW.upd (j := 11) (u := .int .i64 ((k : Int) + 1)) (r := regs) (p := (k : Int) + 1) (ov := over) (fr := far) H.out rfl) (.cells #[.int .i64 3, .int .i64 o, .int .i64 d, .int .i64 a, .int .i64 b, .int .u32 n] 27 (0, 0))) (.cells #[.int .i64 k, .int .i64 (-1)] 48 (0, 0))))
  have HRw := Aside0.mk (MW.rows H.out (.int .i64 ((k : Int) + 1)) (.cells #[.int .i64 3, .int .i64 o, .int .i64 d, .int .i64 a, .int .i64 b, .int .u32 n] 27 (0, 0)) (.cells #[.int .i64 k, .int .i64 (-1)] 48 (0, 0)))
  have hllt := blk_lt H.out.lbox
  have HBx := Aside0.mk (step_boxes w g (.int .i64 ((k : Int) + 1)) (.cells #[.int .i64 3, .int .i64 o, .int .i64 d, .int .i64 a, .int .i64 b, .int .u32 n] 27 (0, 0)) (.cells #[.int .i64 k, .int .i64 (-1)] 48 (0, 0)))
  generalize (((w.setCell ⟨g, 11, none⟩ (.int .i64 ((k : Int) + 1))).alloc (.cells #[.int .i64 3, .int .i64 o, .int .i64 d, .int .i64 a, .int .i64 b, .int .u32 n] 27 (0, 0))).alloc (.cells #[.int .i64 k, .int .i64 (-1)] 48 (0, 0))).drew = wc at *
  clear c0 c1 c2 c3 c4 c5 L0 L1 L2 L3 L4 L5 g0 g11 f11 H
  have m0 : wc.cell? ⟨w.heap.size, 0, none⟩ = some (.int .i64 3) := blk_cell HBx.out.1 0
  have m1 : wc.cell? ⟨w.heap.size, 1, none⟩ = some (.int .i64 o) := blk_cell HBx.out.1 1
  have m2 : wc.cell? ⟨w.heap.size, 2, none⟩ = some (.int .i64 d) := blk_cell HBx.out.1 2
  have m3 : wc.cell? ⟨w.heap.size, 3, none⟩ = some (.int .i64 a) := blk_cell HBx.out.1 3
  have m4 : wc.cell? ⟨w.heap.size, 4, none⟩ = some (.int .i64 b) := blk_cell HBx.out.1 4
  have m5 : wc.cell? ⟨w.heap.size, 5, none⟩ = some (.int .u32 n) := blk_cell HBx.out.1 5
  have l0 : wc.cell? ⟨w.heap.size + 1, 0, none⟩ = some (.int .i64 k) := blk_cell HBx.out.2 0
  have l1 : wc.cell? ⟨w.heap.size + 1, 1, none⟩ = some (.int .i64 (-1)) := blk_cell HBx.out.2 1
  have hne1 : ¬ g = w.heap.size := by omega
  have hne2 : ¬ g = w.heap.size + 1 := by omega
  have hne3 : ¬ w.heap.size = g := by omega
  have hne4 : ¬ w.heap.size + 1 = g := by omega
  have hwn : IntKind.i64.wrap (n : Int) = (n : Int) := IntWalk.i64_in _ (by omega)
  have rd : wc.cell? ⟨g, 2 + d, none⟩ = some (.int .u32 (gt regs d)) := HM.out.reg hd
  have fd := blk_frozen HM.out.box (2 + d)
  have ra : wc.cell? ⟨g, 2 + a, none⟩ = some (.int .u32 (gt regs a)) := HM.out.reg ha
  have rb : wc.cell? ⟨g, 2 + b, none⟩ = some (.int .u32 (gt regs b)) := HM.out.reg hb
  go_upto_region 9 with (fail)
  go_quiet ((go_at_call 66; exact quiet_left (wop_any o _ _ _ ho ho2 HUA.out HUB.out)))
  go_wp2
  go_region
  go_wp2_with (go_at_call 36; (with_reducible refine (keep_any ⟨(k : Int), (-1 : Int)⟩ w0 _ B g gl gm _ _ lv _ out (MW.upd (j := 2 + d) (r := pt regs d (opE o (gt regs a) (gt regs b))) (p := (k : Int) + 1) (ov := over) (fr := far) (MW.drewN HM.out _) (mach_reg HR.out hd)) hl).mono ?_); rintro e w2 ⟨rfl, lv', hM2⟩; have HM2 := Aside0.mk hM2; clear hM2)
  go_end0
  exact ⟨rfl, _, _, HM2.out⟩
set_option maxRecDepth 100000 in
set_option maxHeartbeats 8000000 in
theorem step_4 (o : Int) (d a b n : Nat) (code : List Mi) (k : Nat) (A : Option Addr) (c : Nat) (w0 w : World) (B g gl gm : Nat) (bv lv : Value) (s : MSt) (out : List Leak) (h : MW w0 w B g gl gm (.slice A code.length c) bv lv s out) (hl : out.length ≤ 1500000)
    (hC : Kd.C kMi w A code.length code) (hx : code[k]? = some ⟨4, o, d, a, b, n⟩) (hk : s.pos = k) (hn : n < 4294967296) (hr : s.regs.length = 8) (hd : d < 8) (ha : a < 8) (hb : b < 8) (hm : n < s.mem.length) :
    Calls Try.prog 35 #[.pointer (some ⟨g, 0, none⟩), .func (.func 36) #[] #[.pointer (some ⟨gl, 0, none⟩)]] w fun e w' => e = .returned (.tuple #[]) ∧ ∃ bv' lv', MW w0 w' B g gl gm (.slice A code.length c) bv' lv' (doE ⟨4, o, d, a, b, n⟩ s) (out ++ [leakOf ⟨4, o, d, a, b, n⟩ s.pos]) := by
  obtain ⟨regs, mem, back, pos, over, far⟩ := s
  simp only at hk hr hm
  subst hk
  have hlt := (List.getElem?_eq_some_iff.1 hx).1
  have hcl := hC.2.1
  obtain ⟨x, ad, rfl, hx', c0, c1, c2, c3, c4, c5⟩ := nt_Mi hC (Below.refl _ _) k hlt
  obtain rfl : (⟨4, o, d, a, b, n⟩ : Mi) = x := by rw [hx] at hx'; exact Option.some.inj hx'
  simp only at c0 c1 c2 c3 c4 c5
  have H := Aside0.mk h
  have g0 : w.cell? ⟨g, 0, none⟩ = some (.slice (some ad) code.length c) := blk_cell h.box 0
  have g11 : w.cell? ⟨g, 11, none⟩ = some (.int .i64 k) := blk_cell h.box 11
  have f11 := blk_frozen h.box 11
  have hglt := blk_lt h.box
  have hmlt := blk_lt h.mrow
  have HR := Aside0.mk hr
  have L0 := fun o => pw_cell_below (below_alloc (Below.refl w.heap.size w) o) c0
  have L1 := fun o => pw_cell_below (below_alloc (Below.refl w.heap.size w) o) c1
  have L2 := fun o => pw_cell_below (below_alloc (Below.refl w.heap.size w) o) c2
  have L3 := fun o => pw_cell_below (below_alloc (Below.refl w.heap.size w) o) c3
  have L4 := fun o => pw_cell_below (below_alloc (Below.refl w.heap.size w) o) c4
  have L5 := fun o => pw_cell_below (below_alloc (Below.refl w.heap.size w) o) c5
  clear hx hx' hC h hr
  have hu := Try.underlying27
  have hu2 := Try.underlying48
  have hu3 := Try.underlying76
  go_enter Try.func35, Try.ntmps35
  go_wp2
  go_region
  go_upto_region 3 with (fail)
  have HM := Aside0.mk (MW.drew (MW.alloc (MW.alloc (MW.upd (j := 11) (u := .int .i64 ((k : Int) + 1)) (r := regs) (p := (k : Int) + 1) (ov := over) (fr := far) H.out rfl) (.cells #[.int .i64 4, .int .i64 o, .int .i64 d, .int .i64 a, .int .i64 b, .int .u32 n] 27 (0, 0))) (.cells #[.int .i64 k, .int .i64 (-1)] 48 (0, 0))))
  have HRw := Aside0.mk (MW.rows H.out (.int .i64 ((k : Int) + 1)) (.cells #[.int .i64 4, .int .i64 o, .int .i64 d, .int .i64 a, .int .i64 b, .int .u32 n] 27 (0, 0)) (.cells #[.int .i64 k, .int .i64 (-1)] 48 (0, 0)))
  have hllt := blk_lt H.out.lbox
  have HBx := Aside0.mk (step_boxes w g (.int .i64 ((k : Int) + 1)) (.cells #[.int .i64 4, .int .i64 o, .int .i64 d, .int .i64 a, .int .i64 b, .int .u32 n] 27 (0, 0)) (.cells #[.int .i64 k, .int .i64 (-1)] 48 (0, 0)))
  generalize (((w.setCell ⟨g, 11, none⟩ (.int .i64 ((k : Int) + 1))).alloc (.cells #[.int .i64 4, .int .i64 o, .int .i64 d, .int .i64 a, .int .i64 b, .int .u32 n] 27 (0, 0))).alloc (.cells #[.int .i64 k, .int .i64 (-1)] 48 (0, 0))).drew = wc at *
  clear c0 c1 c2 c3 c4 c5 L0 L1 L2 L3 L4 L5 g0 g11 f11 H
  have m0 : wc.cell? ⟨w.heap.size, 0, none⟩ = some (.int .i64 4) := blk_cell HBx.out.1 0
  have m1 : wc.cell? ⟨w.heap.size, 1, none⟩ = some (.int .i64 o) := blk_cell HBx.out.1 1
  have m2 : wc.cell? ⟨w.heap.size, 2, none⟩ = some (.int .i64 d) := blk_cell HBx.out.1 2
  have m3 : wc.cell? ⟨w.heap.size, 3, none⟩ = some (.int .i64 a) := blk_cell HBx.out.1 3
  have m4 : wc.cell? ⟨w.heap.size, 4, none⟩ = some (.int .i64 b) := blk_cell HBx.out.1 4
  have m5 : wc.cell? ⟨w.heap.size, 5, none⟩ = some (.int .u32 n) := blk_cell HBx.out.1 5
  have l0 : wc.cell? ⟨w.heap.size + 1, 0, none⟩ = some (.int .i64 k) := blk_cell HBx.out.2 0
  have l1 : wc.cell? ⟨w.heap.size + 1, 1, none⟩ = some (.int .i64 (-1)) := blk_cell HBx.out.2 1
  have hne1 : ¬ g = w.heap.size := by omega
  have hne2 : ¬ g = w.heap.size + 1 := by omega
  have hne3 : ¬ w.heap.size = g := by omega
  have hne4 : ¬ w.heap.size + 1 = g := by omega
  have hwn : IntKind.i64.wrap (n : Int) = (n : Int) := IntWalk.i64_in _ (by omega)
  have fl := blk_frozen HBx.out.2 1
  go_upto_region 13 with (fail)
  have HM2 := Aside0.mk (HM.out.far HRw.out.1 HRw.out.2 hglt hllt hmlt (w.heap.size + 1) 1 (by omega) (.int .i64 n))
  have HBy := Aside0.mk (blk_put HBx.out.2 1 (.int .i64 n) rfl)
  have HBz := Aside0.mk (blk_far HBx.out.1 (p := ⟨w.heap.size + 1, 1, none⟩) (by show w.heap.size ≠ w.heap.size + 1; omega) (.int .i64 n))
  clear m0 m1 m2 m3 m4 m5 l0 l1 fl
  generalize wc.setCell ⟨w.heap.size + 1, 1, none⟩ (.int .i64 n) = wd at *
  have m2 : wd.cell? ⟨w.heap.size, 2, none⟩ = some (.int .i64 d) := blk_cell HBz.out 2
  have m3 : wd.cell? ⟨w.heap.size, 3, none⟩ = some (.int .i64 a) := blk_cell HBz.out 3
  have m5 : wd.cell? ⟨w.heap.size, 5, none⟩ = some (.int .u32 n) := blk_cell HBz.out 5
  have l0 : wd.cell? ⟨w.heap.size + 1, 0, none⟩ = some (.int .i64 k) := blk_cell HBy.out 0
  have l1 : wd.cell? ⟨w.heap.size + 1, 1, none⟩ = some (.int .i64 n) := blk_cell HBy.out 1
  have hgm1 : ¬ gm = w.heap.size := by omega
  have hgm2 : ¬ gm = w.heap.size + 1 := by omega
  have hgm3 : ¬ w.heap.size = gm := by omega
  have hgm4 : ¬ w.heap.size + 1 = gm := by omega
  have hggm : ¬ g = gm := blk_ne HM2.out.box HM2.out.mrow (by decide)
  have r1 : wd.cell? ⟨g, 1, none⟩ = some (.slice (some ⟨gm, 0, none⟩) mem.length mem.length) := blk_cell HM2.out.box 1
  have rm : wd.cell? ⟨gm, n, none⟩ = some (.int .u32 (gt mem n)) := HM2.out.cell (by omega)
  have fm := blk_frozen HM2.out.mrow n
  have rx : wd.cell? ⟨g, 2 + d, none⟩ = some (.int .u32 (gt regs d)) := HM2.out.reg hd
  have fx := blk_frozen HM2.out.box (2 + d)
  go_wp2
  go_region
  go_wp2_with (go_at_call 36; (with_reducible refine (keep_any ⟨(k : Int), (n : Int)⟩ w0 _ B g gl gm _ _ lv _ out (MW.drew (MW.upd (j := 2 + d) (r := pt regs d (gt mem n)) (p := (k : Int) + 1) (ov := over) (fr := far) HM2.out (mach_reg HR.out hd))) hl).mono ?_); rintro e w2 ⟨rfl, lv', hM2⟩; have HM3 := Aside0.mk hM2; clear hM2)
  go_end0
  exact ⟨rfl, _, _, HM3.out⟩
set_option maxRecDepth 100000 in
set_option maxHeartbeats 8000000 in
theorem step_5 (o : Int) (d a b n : Nat) (code : List Mi) (k : Nat) (A : Option Addr) (c : Nat) (w0 w : World) (B g gl gm : Nat) (bv lv : Value) (s : MSt) (out : List Leak) (h : MW w0 w B g gl gm (.slice A code.length c) bv lv s out) (hl : out.length ≤ 1500000)
    (hC : Kd.C kMi w A code.length code) (hx : code[k]? = some ⟨5, o, d, a, b, n⟩) (hk : s.pos = k) (hn : n < 4294967296) (hr : s.regs.length = 8) (hd : d < 8) (ha : a < 8) (hb : b < 8) (hm : n < s.mem.length) :
    Calls Try.prog 35 #[.pointer (some ⟨g, 0, none⟩), .func (.func 36) #[] #[.pointer (some ⟨gl, 0, none⟩)]] w fun e w' => e = .returned (.tuple #[]) ∧ ∃ bv' lv', MW w0 w' B g gl gm (.slice A code.length c) bv' lv' (doE ⟨5, o, d, a, b, n⟩ s) (out ++ [leakOf ⟨5, o, d, a, b, n⟩ s.pos]) := by
  obtain ⟨regs, mem, back, pos, over, far⟩ := s
  simp only at hk hr hm
  subst hk
  have hlt := (List.getElem?_eq_some_iff.1 hx).1
  have hcl := hC.2.1
  obtain ⟨x, ad, rfl, hx', c0, c1, c2, c3, c4, c5⟩ := nt_Mi hC (Below.refl _ _) k hlt
  obtain rfl : (⟨5, o, d, a, b, n⟩ : Mi) = x := by rw [hx] at hx'; exact Option.some.inj hx'
  simp only at c0 c1 c2 c3 c4 c5
  have H := Aside0.mk h
  have g0 : w.cell? ⟨g, 0, none⟩ = some (.slice (some ad) code.length c) := blk_cell h.box 0
  have g11 : w.cell? ⟨g, 11, none⟩ = some (.int .i64 k) := blk_cell h.box 11
  have f11 := blk_frozen h.box 11
  have hglt := blk_lt h.box
  have hmlt := blk_lt h.mrow
  have HR := Aside0.mk hr
  have L0 := fun o => pw_cell_below (below_alloc (Below.refl w.heap.size w) o) c0
  have L1 := fun o => pw_cell_below (below_alloc (Below.refl w.heap.size w) o) c1
  have L2 := fun o => pw_cell_below (below_alloc (Below.refl w.heap.size w) o) c2
  have L3 := fun o => pw_cell_below (below_alloc (Below.refl w.heap.size w) o) c3
  have L4 := fun o => pw_cell_below (below_alloc (Below.refl w.heap.size w) o) c4
  have L5 := fun o => pw_cell_below (below_alloc (Below.refl w.heap.size w) o) c5
  clear hx hx' hC h hr
  have hu := Try.underlying27
  have hu2 := Try.underlying48
  have hu3 := Try.underlying76
  go_enter Try.func35, Try.ntmps35
  go_wp2
  go_region
  go_upto_region 3 with (fail)
  have HM := Aside0.mk (MW.drew (MW.alloc (MW.alloc (MW.upd (j := 11) (u := .int .i64 ((k : Int) + 1)) (r := regs) (p := (k : Int) + 1) (ov := over) (fr := far) H.out rfl) (.cells #[.int .i64 5, .int .i64 o, .int .i64 d, .int .i64 a, .int .i64 b, .int .u32 n] 27 (0, 0))) (.cells #[.int .i64 k, .int .i64 (-1)] 48 (0, 0))))
  have HRw := Aside0.mk (MW.rows H.out (.int .i64 ((k : Int) + 1)) (.cells #[.int .i64 5, .int .i64 o, .int .i64 d, .int .i64 a, .int .i64 b, .int .u32 n] 27 (0, 0)) (.cells #[.int .i64 k, .int .i64 (-1)] 48 (0, 0)))
  have hllt := blk_lt H.out.lbox
  have HBx := Aside0.mk (step_boxes w g (.int .i64 ((k : Int) + 1)) (.cells #[.int .i64 5, .int .i64 o, .int .i64 d, .int .i64 a, .int .i64 b, .int .u32 n] 27 (0, 0)) (.cells #[.int .i64 k, .int .i64 (-1)] 48 (0, 0)))
  generalize (((w.setCell ⟨g, 11, none⟩ (.int .i64 ((k : Int) + 1))).alloc (.cells #[.int .i64 5, .int .i64 o, .int .i64 d, .int .i64 a, .int .i64 b, .int .u32 n] 27 (0, 0))).alloc (.cells #[.int .i64 k, .int .i64 (-1)] 48 (0, 0))).drew = wc at *
  clear c0 c1 c2 c3 c4 c5 L0 L1 L2 L3 L4 L5 g0 g11 f11 H
  have m0 : wc.cell? ⟨w.heap.size, 0, none⟩ = some (.int .i64 5) := blk_cell HBx.out.1 0
  have m1 : wc.cell? ⟨w.heap.size, 1, none⟩ = some (.int .i64 o) := blk_cell HBx.out.1 1
  have m2 : wc.cell? ⟨w.heap.size, 2, none⟩ = some (.int .i64 d) := blk_cell HBx.out.1 2
  have m3 : wc.cell? ⟨w.heap.size, 3, none⟩ = some (.int .i64 a) := blk_cell HBx.out.1 3
  have m4 : wc.cell? ⟨w.heap.size, 4, none⟩ = some (.int .i64 b) := blk_cell HBx.out.1 4
  have m5 : wc.cell? ⟨w.heap.size, 5, none⟩ = some (.int .u32 n) := blk_cell HBx.out.1 5
  have l0 : wc.cell? ⟨w.heap.size + 1, 0, none⟩ = some (.int .i64 k) := blk_cell HBx.out.2 0
  have l1 : wc.cell? ⟨w.heap.size + 1, 1, none⟩ = some (.int .i64 (-1)) := blk_cell HBx.out.2 1
  have hne1 : ¬ g = w.heap.size := by omega
  have hne2 : ¬ g = w.heap.size + 1 := by omega
  have hne3 : ¬ w.heap.size = g := by omega
  have hne4 : ¬ w.heap.size + 1 = g := by omega
  have hwn : IntKind.i64.wrap (n : Int) = (n : Int) := IntWalk.i64_in _ (by omega)
  have fl := blk_frozen HBx.out.2 1
  go_upto_region 16 with (fail)
  have HM2 := Aside0.mk (HM.out.far HRw.out.1 HRw.out.2 hglt hllt hmlt (w.heap.size + 1) 1 (by omega) (.int .i64 n))
  have HBy := Aside0.mk (blk_put HBx.out.2 1 (.int .i64 n) rfl)
  have HBz := Aside0.mk (blk_far HBx.out.1 (p := ⟨w.heap.size + 1, 1, none⟩) (by show w.heap.size ≠ w.heap.size + 1; omega) (.int .i64 n))
  clear m0 m1 m2 m3 m4 m5 l0 l1 fl
  generalize wc.setCell ⟨w.heap.size + 1, 1, none⟩ (.int .i64 n) = wd at *
  have m2 : wd.cell? ⟨w.heap.size, 2, none⟩ = some (.int .i64 d) := blk_cell HBz.out 2
  have m3 : wd.cell? ⟨w.heap.size, 3, none⟩ = some (.int .i64 a) := blk_cell HBz.out 3
  have m5 : wd.cell? ⟨w.heap.size, 5, none⟩ = some (.int .u32 n) := blk_cell HBz.out 5
  have l0 : wd.cell? ⟨w.heap.size + 1, 0, none⟩ = some (.int .i64 k) := blk_cell HBy.out 0
  have l1 : wd.cell? ⟨w.heap.size + 1, 1, none⟩ = some (.int .i64 n) := blk_cell HBy.out 1
  have hgm1 : ¬ gm = w.heap.size := by omega
  have hgm2 : ¬ gm = w.heap.size + 1 := by omega
  have hgm3 : ¬ w.heap.size = gm := by omega
  have hgm4 : ¬ w.heap.size + 1 = gm := by omega
  have hggm : ¬ g = gm := blk_ne HM2.out.box HM2.out.mrow (by decide)
  have r1 : wd.cell? ⟨g, 1, none⟩ = some (.slice (some ⟨gm, 0, none⟩) mem.length mem.length) := blk_cell HM2.out.box 1
  have rm : wd.cell? ⟨gm, n, none⟩ = some (.int .u32 (gt mem n)) := HM2.out.cell (by omega)
  have fm := blk_frozen HM2.out.mrow n
  have rx : wd.cell? ⟨g, 2 + a, none⟩ = some (.int .u32 (gt regs a)) := HM2.out.reg ha
  have fx := blk_frozen HM2.out.box (2 + a)
  go_wp2
  go_region
  go_wp2_with (go_at_call 36; (with_reducible refine (keep_any ⟨(k : Int), (n : Int)⟩ w0 _ B g gl gm _ _ lv _ out (MW.drew (MW.setmem HM2.out n (gt regs a))) hl).mono ?_); rintro e w2 ⟨rfl, lv', hM2⟩; have HM3 := Aside0.mk hM2; clear hM2)
  go_end0
  exact ⟨rfl, _, _, HM3.out⟩
set_option maxRecDepth 100000 in
set_option maxHeartbeats 8000000 in
theorem step_6 (o : Int) (d a b n : Nat) (code : List Mi) (k : Nat) (A : Option Addr) (c : Nat) (w0 w : World) (B g gl gm : Nat) (bv lv : Value) (s : MSt) (out : List Leak) (h : MW w0 w B g gl gm (.slice A code.length c) bv lv s out) (hl : out.length ≤ 1500000)
    (hC : Kd.C kMi w A code.length code) (hx : code[k]? = some ⟨6, o, d, a, b, n⟩) (hk : s.pos = k) (hn : n < 4294967296) (hr : s.regs.length = 8) (hd : d < 8) (ha : a < 8) (hb : b < 8) :
    Calls Try.prog 35 #[.pointer (some ⟨g, 0, none⟩), .func (.func 36) #[] #[.pointer (some ⟨gl, 0, none⟩)]] w fun e w' => e = .returned (.tuple #[]) ∧ ∃ bv' lv', MW w0 w' B g gl gm (.slice A code.length c) bv' lv' (doE ⟨6, o, d, a, b, n⟩ s) (out ++ [leakOf ⟨6, o, d, a, b, n⟩ s.pos]) := by
  obtain ⟨regs, mem, back, pos, over, far⟩ := s
  simp only at hk hr
  subst hk
  have hlt := (List.getElem?_eq_some_iff.1 hx).1
  have hcl := hC.2.1
  obtain ⟨x, ad, rfl, hx', c0, c1, c2, c3, c4, c5⟩ := nt_Mi hC (Below.refl _ _) k hlt
  obtain rfl : (⟨6, o, d, a, b, n⟩ : Mi) = x := by rw [hx] at hx'; exact Option.some.inj hx'
  simp only at c0 c1 c2 c3 c4 c5
  have H := Aside0.mk h
  have g0 : w.cell? ⟨g, 0, none⟩ = some (.slice (some ad) code.length c) := blk_cell h.box 0
  have g11 : w.cell? ⟨g, 11, none⟩ = some (.int .i64 k) := blk_cell h.box 11
  have f11 := blk_frozen h.box 11
  have hglt := blk_lt h.box
  have hmlt := blk_lt h.mrow
  have HR := Aside0.mk hr
  have L0 := fun o => pw_cell_below (below_alloc (Below.refl w.heap.size w) o) c0
  have L1 := fun o => pw_cell_below (below_alloc (Below.refl w.heap.size w) o) c1
  have L2 := fun o => pw_cell_below (below_alloc (Below.refl w.heap.size w) o) c2
  have L3 := fun o => pw_cell_below (below_alloc (Below.refl w.heap.size w) o) c3
  have L4 := fun o => pw_cell_below (below_alloc (Below.refl w.heap.size w) o) c4
  have L5 := fun o => pw_cell_below (below_alloc (Below.refl w.heap.size w) o) c5
  clear hx hx' hC h hr
  have hu := Try.underlying27
  have hu2 := Try.underlying48
  have hu3 := Try.underlying76
  go_enter Try.func35, Try.ntmps35
  go_wp2
  go_region
  go_upto_region 3 with (fail)
  have HM := Aside0.mk (MW.drew (MW.alloc (MW.alloc (MW.upd (j := 11) (u := .int .i64 ((k : Int) + 1)) (r := regs) (p := (k : Int) + 1) (ov := over) (fr := far) H.out rfl) (.cells #[.int .i64 6, .int .i64 o, .int .i64 d, .int .i64 a, .int .i64 b, .int .u32 n] 27 (0, 0))) (.cells #[.int .i64 k, .int .i64 (-1)] 48 (0, 0))))
  have HRw := Aside0.mk (MW.rows H.out (.int .i64 ((k : Int) + 1)) (.cells #[.int .i64 6, .int .i64 o, .int .i64 d, .int .i64 a, .int .i64 b, .int .u32 n] 27 (0, 0)) (.cells #[.int .i64 k, .int .i64 (-1)] 48 (0, 0)))
  have hllt := blk_lt H.out.lbox
  have HBx := Aside0.mk (step_boxes w g (.int .i64 ((k : Int) + 1)) (.cells #[.int .i64 6, .int .i64 o, .int .i64 d, .int .i64 a, .int .i64 b, .int .u32 n] 27 (0, 0)) (.cells #[.int .i64 k, .int .i64 (-1)] 48 (0, 0)))
  generalize (((w.setCell ⟨g, 11, none⟩ (.int .i64 ((k : Int) + 1))).alloc (.cells #[.int .i64 6, .int .i64 o, .int .i64 d, .int .i64 a, .int .i64 b, .int .u32 n] 27 (0, 0))).alloc (.cells #[.int .i64 k, .int .i64 (-1)] 48 (0, 0))).drew = wc at *
  clear c0 c1 c2 c3 c4 c5 L0 L1 L2 L3 L4 L5 g0 g11 f11 H
  have m0 : wc.cell? ⟨w.heap.size, 0, none⟩ = some (.int .i64 6) := blk_cell HBx.out.1 0
  have m1 : wc.cell? ⟨w.heap.size, 1, none⟩ = some (.int .i64 o) := blk_cell HBx.out.1 1
  have m2 : wc.cell? ⟨w.heap.size, 2, none⟩ = some (.int .i64 d) := blk_cell HBx.out.1 2
  have m3 : wc.cell? ⟨w.heap.size, 3, none⟩ = some (.int .i64 a) := blk_cell HBx.out.1 3
  have m4 : wc.cell? ⟨w.heap.size, 4, none⟩ = some (.int .i64 b) := blk_cell HBx.out.1 4
  have m5 : wc.cell? ⟨w.heap.size, 5, none⟩ = some (.int .u32 n) := blk_cell HBx.out.1 5
  have l0 : wc.cell? ⟨w.heap.size + 1, 0, none⟩ = some (.int .i64 k) := blk_cell HBx.out.2 0
  have l1 : wc.cell? ⟨w.heap.size + 1, 1, none⟩ = some (.int .i64 (-1)) := blk_cell HBx.out.2 1
  have hne1 : ¬ g = w.heap.size := by omega
  have hne2 : ¬ g = w.heap.size + 1 := by omega
  have hne3 : ¬ w.heap.size = g := by omega
  have hne4 : ¬ w.heap.size + 1 = g := by omega
  have hwn : IntKind.i64.wrap (n : Int) = (n : Int) := IntWalk.i64_in _ (by omega)
  have r11 : wc.cell? ⟨g, 11, none⟩ = some (.int .i64 ((k : Int) + 1)) := blk_cell HM.out.box 11
  have f11 := blk_frozen HM.out.box 11
  go_wp2_with (go_at_call 36; (with_reducible refine (keep_any ⟨(k : Int), (-1 : Int)⟩ w0 _ B g gl gm _ _ lv _ out (MW.upd (j := 11) (r := regs) (p := (n : Int)) (ov := over) (fr := far) HM.out rfl) hl).mono ?_); rintro e w2 ⟨rfl, lv', hM2⟩; have HM2 := Aside0.mk hM2; clear hM2)
  go_end0
  exact ⟨rfl, _, _, HM2.out⟩
set_option maxRecDepth 100000 in
set_option maxHeartbeats 8000000 in
theorem step_7 (o : Int) (d a b n : Nat) (code : List Mi) (k : Nat) (A : Option Addr) (c : Nat) (w0 w : World) (B g gl gm : Nat) (bv lv : Value) (s : MSt) (out : List Leak) (h : MW w0 w B g gl gm (.slice A code.length c) bv lv s out) (hl : out.length ≤ 1500000)
    (hC : Kd.C kMi w A code.length code) (hx : code[k]? = some ⟨7, o, d, a, b, n⟩) (hk : s.pos = k) (hn : n < 4294967296) (hr : s.regs.length = 8) (hd : d < 8) (ha : a < 8) (hb : b < 8) :
    Calls Try.prog 35 #[.pointer (some ⟨g, 0, none⟩), .func (.func 36) #[] #[.pointer (some ⟨gl, 0, none⟩)]] w fun e w' => e = .returned (.tuple #[]) ∧ ∃ bv' lv', MW w0 w' B g gl gm (.slice A code.length c) bv' lv' (doE ⟨7, o, d, a, b, n⟩ s) (out ++ [leakOf ⟨7, o, d, a, b, n⟩ s.pos]) := by
  obtain ⟨regs, mem, back, pos, over, far⟩ := s
  simp only at hk hr
  subst hk
  have hlt := (List.getElem?_eq_some_iff.1 hx).1
  have hcl := hC.2.1
  obtain ⟨x, ad, rfl, hx', c0, c1, c2, c3, c4, c5⟩ := nt_Mi hC (Below.refl _ _) k hlt
  obtain rfl : (⟨7, o, d, a, b, n⟩ : Mi) = x := by rw [hx] at hx'; exact Option.some.inj hx'
  simp only at c0 c1 c2 c3 c4 c5
  have H := Aside0.mk h
  have g0 : w.cell? ⟨g, 0, none⟩ = some (.slice (some ad) code.length c) := blk_cell h.box 0
  have g11 : w.cell? ⟨g, 11, none⟩ = some (.int .i64 k) := blk_cell h.box 11
  have f11 := blk_frozen h.box 11
  have hglt := blk_lt h.box
  have hmlt := blk_lt h.mrow
  have HR := Aside0.mk hr
  have L0 := fun o => pw_cell_below (below_alloc (Below.refl w.heap.size w) o) c0
  have L1 := fun o => pw_cell_below (below_alloc (Below.refl w.heap.size w) o) c1
  have L2 := fun o => pw_cell_below (below_alloc (Below.refl w.heap.size w) o) c2
  have L3 := fun o => pw_cell_below (below_alloc (Below.refl w.heap.size w) o) c3
  have L4 := fun o => pw_cell_below (below_alloc (Below.refl w.heap.size w) o) c4
  have L5 := fun o => pw_cell_below (below_alloc (Below.refl w.heap.size w) o) c5
  clear hx hx' hC h hr
  have hu := Try.underlying27
  have hu2 := Try.underlying48
  have hu3 := Try.underlying76
  go_enter Try.func35, Try.ntmps35
  go_wp2
  go_region
  go_upto_region 3 with (fail)
  have HM := Aside0.mk (MW.drew (MW.alloc (MW.alloc (MW.upd (j := 11) (u := .int .i64 ((k : Int) + 1)) (r := regs) (p := (k : Int) + 1) (ov := over) (fr := far) H.out rfl) (.cells #[.int .i64 7, .int .i64 o, .int .i64 d, .int .i64 a, .int .i64 b, .int .u32 n] 27 (0, 0))) (.cells #[.int .i64 k, .int .i64 (-1)] 48 (0, 0))))
  have HRw := Aside0.mk (MW.rows H.out (.int .i64 ((k : Int) + 1)) (.cells #[.int .i64 7, .int .i64 o, .int .i64 d, .int .i64 a, .int .i64 b, .int .u32 n] 27 (0, 0)) (.cells #[.int .i64 k, .int .i64 (-1)] 48 (0, 0)))
  have hllt := blk_lt H.out.lbox
  have HBx := Aside0.mk (step_boxes w g (.int .i64 ((k : Int) + 1)) (.cells #[.int .i64 7, .int .i64 o, .int .i64 d, .int .i64 a, .int .i64 b, .int .u32 n] 27 (0, 0)) (.cells #[.int .i64 k, .int .i64 (-1)] 48 (0, 0)))
  generalize (((w.setCell ⟨g, 11, none⟩ (.int .i64 ((k : Int) + 1))).alloc (.cells #[.int .i64 7, .int .i64 o, .int .i64 d, .int .i64 a, .int .i64 b, .int .u32 n] 27 (0, 0))).alloc (.cells #[.int .i64 k, .int .i64 (-1)] 48 (0, 0))).drew = wc at *
  clear c0 c1 c2 c3 c4 c5 L0 L1 L2 L3 L4 L5 g0 g11 f11 H
  have m0 : wc.cell? ⟨w.heap.size, 0, none⟩ = some (.int .i64 7) := blk_cell HBx.out.1 0
  have m1 : wc.cell? ⟨w.heap.size, 1, none⟩ = some (.int .i64 o) := blk_cell HBx.out.1 1
  have m2 : wc.cell? ⟨w.heap.size, 2, none⟩ = some (.int .i64 d) := blk_cell HBx.out.1 2
  have m3 : wc.cell? ⟨w.heap.size, 3, none⟩ = some (.int .i64 a) := blk_cell HBx.out.1 3
  have m4 : wc.cell? ⟨w.heap.size, 4, none⟩ = some (.int .i64 b) := blk_cell HBx.out.1 4
  have m5 : wc.cell? ⟨w.heap.size, 5, none⟩ = some (.int .u32 n) := blk_cell HBx.out.1 5
  have l0 : wc.cell? ⟨w.heap.size + 1, 0, none⟩ = some (.int .i64 k) := blk_cell HBx.out.2 0
  have l1 : wc.cell? ⟨w.heap.size + 1, 1, none⟩ = some (.int .i64 (-1)) := blk_cell HBx.out.2 1
  have hne1 : ¬ g = w.heap.size := by omega
  have hne2 : ¬ g = w.heap.size + 1 := by omega
  have hne3 : ¬ w.heap.size = g := by omega
  have hne4 : ¬ w.heap.size + 1 = g := by omega
  have hwn : IntKind.i64.wrap (n : Int) = (n : Int) := IntWalk.i64_in _ (by omega)
  have r11 : wc.cell? ⟨g, 11, none⟩ = some (.int .i64 ((k : Int) + 1)) := blk_cell HM.out.box 11
  have f11 := blk_frozen HM.out.box 11
  have ra : wc.cell? ⟨g, 2 + a, none⟩ = some (.int .u32 (gt regs a)) := HM.out.reg ha
  have HE := Aside0.mk (show doE ⟨7, o, d, a, b, n⟩ ⟨regs, mem, back, k, over, far⟩ = ⟨regs, mem, back, if gt regs a = 0 then n else (k : Int) + 1, over, far⟩ from rfl)
  by_cases hz : gt regs a = 0
  · have hzb : (gt regs a == 0) = true := beq_iff_eq.2 hz
    have HZ := Aside0.mk hz
    clear hz
    go_wp2
    go_region
    go_wp2_with (go_at_call 36; (with_reducible refine (keep_any ⟨(k : Int), (-1 : Int)⟩ w0 _ B g gl gm _ _ lv _ out (MW.drew (MW.upd (j := 11) (r := regs) (p := (n : Int)) (ov := over) (fr := far) HM.out rfl)) hl).mono ?_); rintro e w2 ⟨rfl, lv', hM2⟩; have HM2 := Aside0.mk hM2; clear hM2)
    go_end0
    exact ⟨rfl, _, _, by rw [HE.out, if_pos HZ.out]; exact HM2.out⟩
  · have hzb : (gt regs a == 0) = false := beq_eq_false_iff_ne.2 hz
    have HZ := Aside0.mk hz
    clear hz
    go_wp2
    go_region
    go_wp2_with (go_at_call 36; (with_reducible refine (keep_any ⟨(k : Int), (-1 : Int)⟩ w0 _ B g gl gm _ _ lv _ out (MW.drew HM.out) hl).mono ?_); rintro e w2 ⟨rfl, lv', hM2⟩; have HM2 := Aside0.mk hM2; clear hM2)
    go_end0
    exact ⟨rfl, _, _, by rw [HE.out, if_neg HZ.out]; exact HM2.out⟩
set_option maxRecDepth 100000 in
set_option maxHeartbeats 8000000 in
theorem step_8 (o : Int) (d a b n : Nat) (code : List Mi) (k : Nat) (A : Option Addr) (c : Nat) (w0 w : World) (B g gl gm : Nat) (bv lv : Value) (s : MSt) (out : List Leak) (h : MW w0 w B g gl gm (.slice A code.length c) bv lv s out) (hl : out.length ≤ 1500000)
    (hC : Kd.C kMi w A code.length code) (hx : code[k]? = some ⟨8, o, d, a, b, n⟩) (hk : s.pos = k) (hn : n < 4294967296) (hr : s.regs.length = 8) (hd : d < 8) (ha : a < 8) (hb : b < 8) (hbl : s.back.length ≤ 32) :
    Calls Try.prog 35 #[.pointer (some ⟨g, 0, none⟩), .func (.func 36) #[] #[.pointer (some ⟨gl, 0, none⟩)]] w fun e w' => e = .returned (.tuple #[]) ∧ ∃ bv' lv', MW w0 w' B g gl gm (.slice A code.length c) bv' lv' (doE ⟨8, o, d, a, b, n⟩ s) (out ++ [leakOf ⟨8, o, d, a, b, n⟩ s.pos]) := by
  obtain ⟨regs, mem, back, pos, over, far⟩ := s
  simp only at hk hr hbl
  subst hk
  have hlt := (List.getElem?_eq_some_iff.1 hx).1
  have hcl := hC.2.1
  obtain ⟨x, ad, rfl, hx', c0, c1, c2, c3, c4, c5⟩ := nt_Mi hC (Below.refl _ _) k hlt
  obtain rfl : (⟨8, o, d, a, b, n⟩ : Mi) = x := by rw [hx] at hx'; exact Option.some.inj hx'
  simp only at c0 c1 c2 c3 c4 c5
  have H := Aside0.mk h
  have g0 : w.cell? ⟨g, 0, none⟩ = some (.slice (some ad) code.length c) := blk_cell h.box 0
  have g11 : w.cell? ⟨g, 11, none⟩ = some (.int .i64 k) := blk_cell h.box 11
  have f11 := blk_frozen h.box 11
  have hglt := blk_lt h.box
  have hmlt := blk_lt h.mrow
  have HR := Aside0.mk hr
  have L0 := fun o => pw_cell_below (below_alloc (Below.refl w.heap.size w) o) c0
  have L1 := fun o => pw_cell_below (below_alloc (Below.refl w.heap.size w) o) c1
  have L2 := fun o => pw_cell_below (below_alloc (Below.refl w.heap.size w) o) c2
  have L3 := fun o => pw_cell_below (below_alloc (Below.refl w.heap.size w) o) c3
  have L4 := fun o => pw_cell_below (below_alloc (Below.refl w.heap.size w) o) c4
  have L5 := fun o => pw_cell_below (below_alloc (Below.refl w.heap.size w) o) c5
  clear hx hx' hC h hr
  have hu := Try.underlying27
  have hu2 := Try.underlying48
  have hu3 := Try.underlying76
  obtain ⟨Ab, cb, hbv, hcb, hCb⟩ := Kd.R_reads H.out.back
  simp only at hbv hcb hCb
  subst hbv
  clear hCb
  obtain ⟨fb, hfb⟩ : ∃ fb : Bool, ((back.length : Int) == 32) = fb := ⟨_, rfl⟩
  have HF := Aside0.mk (show decide (back.length = 32) = fb by rw [← hfb]; by_cases h : back.length = 32 <;> simp [h]; omega)
  go_enter Try.func35, Try.ntmps35
  go_wp2
  go_region
  go_upto_region 3 with (fail)
  have HM := Aside0.mk (MW.drew (MW.alloc (MW.alloc (MW.upd (j := 11) (u := .int .i64 ((k : Int) + 1)) (r := regs) (p := (k : Int) + 1) (ov := over) (fr := far) H.out rfl) (.cells #[.int .i64 8, .int .i64 o, .int .i64 d, .int .i64 a, .int .i64 b, .int .u32 n] 27 (0, 0))) (.cells #[.int .i64 k, .int .i64 (-1)] 48 (0, 0))))
  have HRw := Aside0.mk (MW.rows H.out (.int .i64 ((k : Int) + 1)) (.cells #[.int .i64 8, .int .i64 o, .int .i64 d, .int .i64 a, .int .i64 b, .int .u32 n] 27 (0, 0)) (.cells #[.int .i64 k, .int .i64 (-1)] 48 (0, 0)))
  have hllt := blk_lt H.out.lbox
  have HBx := Aside0.mk (step_boxes w g (.int .i64 ((k : Int) + 1)) (.cells #[.int .i64 8, .int .i64 o, .int .i64 d, .int .i64 a, .int .i64 b, .int .u32 n] 27 (0, 0)) (.cells #[.int .i64 k, .int .i64 (-1)] 48 (0, 0)))
  generalize (((w.setCell ⟨g, 11, none⟩ (.int .i64 ((k : Int) + 1))).alloc (.cells #[.int .i64 8, .int .i64 o, .int .i64 d, .int .i64 a, .int .i64 b, .int .u32 n] 27 (0, 0))).alloc (.cells #[.int .i64 k, .int .i64 (-1)] 48 (0, 0))).drew = wc at *
  clear c0 c1 c2 c3 c4 c5 L0 L1 L2 L3 L4 L5 g0 g11 f11 H
  have m0 : wc.cell? ⟨w.heap.size, 0, none⟩ = some (.int .i64 8) := blk_cell HBx.out.1 0
  have m1 : wc.cell? ⟨w.heap.size, 1, none⟩ = some (.int .i64 o) := blk_cell HBx.out.1 1
  have m2 : wc.cell? ⟨w.heap.size, 2, none⟩ = some (.int .i64 d) := blk_cell HBx.out.1 2
  have m3 : wc.cell? ⟨w.heap.size, 3, none⟩ = some (.int .i64 a) := blk_cell HBx.out.1 3
  have m4 : wc.cell? ⟨w.heap.size, 4, none⟩ = some (.int .i64 b) := blk_cell HBx.out.1 4
  have m5 : wc.cell? ⟨w.heap.size, 5, none⟩ = some (.int .u32 n) := blk_cell HBx.out.1 5
  have l0 : wc.cell? ⟨w.heap.size + 1, 0, none⟩ = some (.int .i64 k) := blk_cell HBx.out.2 0
  have l1 : wc.cell? ⟨w.heap.size + 1, 1, none⟩ = some (.int .i64 (-1)) := blk_cell HBx.out.2 1
  have hne1 : ¬ g = w.heap.size := by omega
  have hne2 : ¬ g = w.heap.size + 1 := by omega
  have hne3 : ¬ w.heap.size = g := by omega
  have hne4 : ¬ w.heap.size + 1 = g := by omega
  have hwn : IntKind.i64.wrap (n : Int) = (n : Int) := IntWalk.i64_in _ (by omega)
  have r10 : wc.cell? ⟨g, 10, none⟩ = some (.slice Ab back.length cb) := blk_cell HM.out.box 10
  have r13 : wc.cell? ⟨g, 13, none⟩ = some (.bool far) := blk_cell HM.out.box 13
  have f13 := blk_frozen HM.out.box 13
  go_upto_region 24 with (fail)
  have HM1 := Aside0.mk (MW.upd (j := 13) (u := .bool fb) (r := regs) (p := (k : Int) + 1) (ov := over) (fr := fb) HM.out rfl)
  have HBy := Aside0.mk (And.intro (blk_far HBx.out.1 (p := ⟨g, 13, none⟩) (by show w.heap.size ≠ g; omega) (.bool fb)) (blk_far HBx.out.2 (p := ⟨g, 13, none⟩) (by show w.heap.size + 1 ≠ g; omega) (.bool fb)))
  clear m0 m1 m2 m3 m4 m5 l0 l1 r10 r13 f13
  generalize wc.setCell ⟨g, 13, none⟩ (.bool fb) = wd at *
  have r10 : wd.cell? ⟨g, 10, none⟩ = some (.slice Ab back.length cb) := blk_cell HM1.out.box 10
  have r11 : wd.cell? ⟨g, 11, none⟩ = some (.int .i64 ((k : Int) + 1)) := blk_cell HM1.out.box 11
  have hdlt := blk_lt HM1.out.box
  have hwd := HM1.out.hB
  have HNe := Aside0.mk (show some w.heap.size ≠ (Value.slice Ab back.length cb).ownBlock ∧ some (w.heap.size + 1) ≠ (Value.slice Ab back.length cb).ownBlock from ⟨fun e => (by have := HRw.out.2.1 _ e.symm; omega), fun e => (by have := HRw.out.2.1 _ e.symm; omega)⟩)
  go_region_law (first
    | (refine step_app B rfl (.tmp 166) (.tmp 171) rfl (.slice Ab back.length cb) back [(k : Int) + 1] _ 1 rfl rfl (by first | exact (MW.drew (MW.alloc HM1.out _)).back | exact (MW.alloc HM1.out _).back) (by first | exact C_one (blk_drew (blk_new _ _)) | exact C_one (blk_new _ _)) (w0 := w0) (by first | exact (MW.drew (MW.alloc HM1.out _)).below | exact (MW.alloc HM1.out _).below) (by simp; omega) (by simp; omega) ?_; intro v1 w1 hR1 hB1 hg1; ((first | (obtain ⟨hM3, hb1⟩ := MW.push (MW.drew (MW.alloc HM1.out _)) hR1 hB1 hg1) | (obtain ⟨hM3, hb1⟩ := MW.push (MW.alloc HM1.out _) hR1 hB1 hg1)); have HN1 := Aside0.mk (keep2 HBy.out hg1 HNe.out); obtain ⟨A2, c2, e2, hc2, _⟩ := Kd.R_reads hR1; subst e2; have HM3 := Aside0.mk hM3; have q1 : w1.cell? ⟨g, 10, none⟩ = some (.slice Ab back.length cb) := blk_cell hb1 10; have q2 := blk_frozen hb1 10; clear hR1 hB1 hg1 hM3 hb1)))
  all_goals
    have e3 : (back ++ [(k : Int) + 1]).length = back.length + 1 := by simp
    rw [e3] at HM3
    have HM4 := Aside0.mk HM3.out
    have HN3 := Aside0.mk (And.intro (blk_far HN1.out.1 (p := ⟨g, 10, none⟩) (by show w.heap.size ≠ g; omega) (.slice A2 (back.length + 1) c2)) (blk_far HN1.out.2 (p := ⟨g, 10, none⟩) (by show w.heap.size + 1 ≠ g; omega) (.slice A2 (back.length + 1) c2)))
    clear HM3 HN1 q1 q2 r10 r11
    generalize w1.setCell ⟨g, 10, none⟩ (.slice A2 (back.length + 1) c2) = we at *
    have m5 : we.cell? ⟨w.heap.size, 5, none⟩ = some (.int .u32 n) := blk_cell HN3.out.1 5
    have l0 : we.cell? ⟨w.heap.size + 1, 0, none⟩ = some (.int .i64 k) := blk_cell HN3.out.2 0
    have l1 : we.cell? ⟨w.heap.size + 1, 1, none⟩ = some (.int .i64 (-1)) := blk_cell HN3.out.2 1
    have r11 : we.cell? ⟨g, 11, none⟩ = some (.int .i64 ((k : Int) + 1)) := blk_cell HM4.out.box 11
    have f11 := blk_frozen HM4.out.box 11
    have HD := Aside0.mk (show doE ⟨8, o, d, a, b, n⟩ ⟨regs, mem, back, k, over, far⟩ = ⟨regs, mem, back ++ [(k : Int) + 1], n, over, decide (back.length = 32)⟩ from rfl)
    go_wp2_with (go_at_call 36; (with_reducible refine (keep_any ⟨(k : Int), (-1 : Int)⟩ w0 _ B g gl gm _ _ lv _ out (MW.upd (j := 11) (r := regs) (p := (n : Int)) (ov := over) (fr := fb) HM4.out rfl) hl).mono ?_); rintro e w2 ⟨rfl, lv', hM2⟩; have HM2 := Aside0.mk hM2; clear hM2)
    go_end0
    exact ⟨rfl, _, _, by rw [HD.out, HF.out]; exact HM2.out⟩
set_option maxRecDepth 100000 in
set_option maxHeartbeats 8000000 in
theorem step_9 (o : Int) (d a b n : Nat) (code : List Mi) (k : Nat) (A : Option Addr) (c : Nat) (w0 w : World) (B g gl gm : Nat) (bv lv : Value) (s : MSt) (out : List Leak) (h : MW w0 w B g gl gm (.slice A code.length c) bv lv s out) (hl : out.length ≤ 1500000)
    (hC : Kd.C kMi w A code.length code) (hx : code[k]? = some ⟨9, o, d, a, b, n⟩) (hk : s.pos = k) (hn : n < 4294967296) (hr : s.regs.length = 8) (hd : d < 8) (ha : a < 8) (hb : b < 8) (hbl : s.back.length ≤ 32) :
    Calls Try.prog 35 #[.pointer (some ⟨g, 0, none⟩), .func (.func 36) #[] #[.pointer (some ⟨gl, 0, none⟩)]] w fun e w' => e = .returned (.tuple #[]) ∧ ∃ bv' lv', MW w0 w' B g gl gm (.slice A code.length c) bv' lv' (doE ⟨9, o, d, a, b, n⟩ s) (out ++ [leakOf ⟨9, o, d, a, b, n⟩ s.pos]) := by
  obtain ⟨regs, mem, back, pos, over, far⟩ := s
  simp only at hk hr hbl
  subst hk
  have hlt := (List.getElem?_eq_some_iff.1 hx).1
  have hcl := hC.2.1
  obtain ⟨x, ad, rfl, hx', c0, c1, c2, c3, c4, c5⟩ := nt_Mi hC (Below.refl _ _) k hlt
  obtain rfl : (⟨9, o, d, a, b, n⟩ : Mi) = x := by rw [hx] at hx'; exact Option.some.inj hx'
  simp only at c0 c1 c2 c3 c4 c5
  have H := Aside0.mk h
  have g0 : w.cell? ⟨g, 0, none⟩ = some (.slice (some ad) code.length c) := blk_cell h.box 0
  have g11 : w.cell? ⟨g, 11, none⟩ = some (.int .i64 k) := blk_cell h.box 11
  have f11 := blk_frozen h.box 11
  have hglt := blk_lt h.box
  have hmlt := blk_lt h.mrow
  have HR := Aside0.mk hr
  have L0 := fun o => pw_cell_below (below_alloc (Below.refl w.heap.size w) o) c0
  have L1 := fun o => pw_cell_below (below_alloc (Below.refl w.heap.size w) o) c1
  have L2 := fun o => pw_cell_below (below_alloc (Below.refl w.heap.size w) o) c2
  have L3 := fun o => pw_cell_below (below_alloc (Below.refl w.heap.size w) o) c3
  have L4 := fun o => pw_cell_below (below_alloc (Below.refl w.heap.size w) o) c4
  have L5 := fun o => pw_cell_below (below_alloc (Below.refl w.heap.size w) o) c5
  clear hx hx' hC h hr
  have hu := Try.underlying27
  have hu2 := Try.underlying48
  have hu3 := Try.underlying76
  obtain ⟨Ab, cb, hbv, hcb, hCb⟩ := Kd.R_reads H.out.back
  simp only at hbv hcb hCb
  subst hbv
  clear hCb
  go_enter Try.func35, Try.ntmps35
  go_wp2
  go_region
  go_upto_region 3 with (fail)
  have HM := Aside0.mk (MW.drew (MW.alloc (MW.alloc (MW.upd (j := 11) (u := .int .i64 ((k : Int) + 1)) (r := regs) (p := (k : Int) + 1) (ov := over) (fr := far) H.out rfl) (.cells #[.int .i64 9, .int .i64 o, .int .i64 d, .int .i64 a, .int .i64 b, .int .u32 n] 27 (0, 0))) (.cells #[.int .i64 k, .int .i64 (-1)] 48 (0, 0))))
  have HRw := Aside0.mk (MW.rows H.out (.int .i64 ((k : Int) + 1)) (.cells #[.int .i64 9, .int .i64 o, .int .i64 d, .int .i64 a, .int .i64 b, .int .u32 n] 27 (0, 0)) (.cells #[.int .i64 k, .int .i64 (-1)] 48 (0, 0)))
  have hllt := blk_lt H.out.lbox
  have HBx := Aside0.mk (step_boxes w g (.int .i64 ((k : Int) + 1)) (.cells #[.int .i64 9, .int .i64 o, .int .i64 d, .int .i64 a, .int .i64 b, .int .u32 n] 27 (0, 0)) (.cells #[.int .i64 k, .int .i64 (-1)] 48 (0, 0)))
  generalize (((w.setCell ⟨g, 11, none⟩ (.int .i64 ((k : Int) + 1))).alloc (.cells #[.int .i64 9, .int .i64 o, .int .i64 d, .int .i64 a, .int .i64 b, .int .u32 n] 27 (0, 0))).alloc (.cells #[.int .i64 k, .int .i64 (-1)] 48 (0, 0))).drew = wc at *
  clear c0 c1 c2 c3 c4 c5 L0 L1 L2 L3 L4 L5 g0 g11 f11 H
  have m0 : wc.cell? ⟨w.heap.size, 0, none⟩ = some (.int .i64 9) := blk_cell HBx.out.1 0
  have m1 : wc.cell? ⟨w.heap.size, 1, none⟩ = some (.int .i64 o) := blk_cell HBx.out.1 1
  have m2 : wc.cell? ⟨w.heap.size, 2, none⟩ = some (.int .i64 d) := blk_cell HBx.out.1 2
  have m3 : wc.cell? ⟨w.heap.size, 3, none⟩ = some (.int .i64 a) := blk_cell HBx.out.1 3
  have m4 : wc.cell? ⟨w.heap.size, 4, none⟩ = some (.int .i64 b) := blk_cell HBx.out.1 4
  have m5 : wc.cell? ⟨w.heap.size, 5, none⟩ = some (.int .u32 n) := blk_cell HBx.out.1 5
  have l0 : wc.cell? ⟨w.heap.size + 1, 0, none⟩ = some (.int .i64 k) := blk_cell HBx.out.2 0
  have l1 : wc.cell? ⟨w.heap.size + 1, 1, none⟩ = some (.int .i64 (-1)) := blk_cell HBx.out.2 1
  have hne1 : ¬ g = w.heap.size := by omega
  have hne2 : ¬ g = w.heap.size + 1 := by omega
  have hne3 : ¬ w.heap.size = g := by omega
  have hne4 : ¬ w.heap.size + 1 = g := by omega
  have hwn : IntKind.i64.wrap (n : Int) = (n : Int) := IntWalk.i64_in _ (by omega)
  have r10 : wc.cell? ⟨g, 10, none⟩ = some (.slice Ab back.length cb) := blk_cell HM.out.box 10
  have r12 : wc.cell? ⟨g, 12, none⟩ = some (.bool over) := blk_cell HM.out.box 12
  have f12 := blk_frozen HM.out.box 12
  have HD := Aside0.mk (show doE ⟨9, o, d, a, b, n⟩ ⟨regs, mem, back, k, over, far⟩ = if back.length = 0 then ⟨regs, mem, back, (k : Int) + 1, true, far⟩ else ⟨regs, mem, back.take (back.length - 1), gt back (back.length - 1), false, far⟩ from rfl)
  by_cases hz : back.length = 0
  · obtain rfl : back = [] := List.eq_nil_of_length_eq_zero hz
    have HD2 := Aside0.mk (show doE ⟨9, o, d, a, b, n⟩ ⟨regs, mem, [], k, over, far⟩ = ⟨regs, mem, [], (k : Int) + 1, true, far⟩ from rfl)
    have r10' : wc.cell? ⟨g, 10, none⟩ = some (.slice Ab 0 cb) := r10
    clear r10 hz HD
    go_upto_region 28 with (fail)
    have HM1 := Aside0.mk (MW.upd (j := 12) (u := .bool true) (r := regs) (p := (k : Int) + 1) (ov := true) (fr := far) HM.out rfl)
    have HBy := Aside0.mk (And.intro (blk_far HBx.out.1 (p := ⟨g, 12, none⟩) (by show w.heap.size ≠ g; omega) (.bool true)) (blk_far HBx.out.2 (p := ⟨g, 12, none⟩) (by show w.heap.size + 1 ≠ g; omega) (.bool true)))
    clear m0 m1 m2 m3 m4 m5 l0 l1 r10' r12 f12
    generalize wc.setCell ⟨g, 12, none⟩ (.bool true) = wd at *
    have l0 : wd.cell? ⟨w.heap.size + 1, 0, none⟩ = some (.int .i64 k) := blk_cell HBy.out.2 0
    have l1 : wd.cell? ⟨w.heap.size + 1, 1, none⟩ = some (.int .i64 (-1)) := blk_cell HBy.out.2 1
    have r12 : wd.cell? ⟨g, 12, none⟩ = some (.bool true) := blk_cell HM1.out.box 12
    go_wp2_with (go_at_call 36; (with_reducible refine (keep_any ⟨(k : Int), (-1 : Int)⟩ w0 _ B g gl gm _ _ lv _ out (HM1.out) hl).mono ?_); rintro e w2 ⟨rfl, lv', hM2⟩; have HM2 := Aside0.mk hM2; clear hM2)
    go_end0
    exact ⟨rfl, _, _, by rw [HD2.out]; exact HM2.out⟩
  · obtain ⟨q, hq⟩ : ∃ q, back.length = q + 1 := ⟨back.length - 1, by omega⟩
    obtain ⟨gb, rfl, _, hle, hcell, cells, hgb⟩ := HM.out.back.opened (by show 0 < back.length; omega)
    have HQ := Aside0.mk hq
    have hx1 : back[q]? = some (gt back q) := gt_some (l := back) (i := (q : Int)) (by omega) (by omega)
    have HC1 := Aside0.mk (hcell q _ hx1)
    have hgne : ¬ gb = g := blk_ne hgb HM.out.box (by decide)
    have HD2 := Aside0.mk (show doE ⟨9, o, d, a, b, n⟩ ⟨regs, mem, back, k, over, far⟩ = ⟨regs, mem, back.take q, gt back q, false, far⟩ by rw [HD.out, if_neg hz, show back.length - 1 = q by omega, show (back.length : Int) - 1 = (q : Int) by omega])
    simp only at hle
    rw [hq] at r10 hle
    clear hz HD hx1 hcell hgb
    generalize gt back q = xq at *
    have hqb : ((q : Int) + 1 == 0) = false := beq_eq_false_iff_ne.2 (by omega)
    go_upto_region 28 with (fail)
    have HM1 := Aside0.mk (MW.upd (j := 12) (u := .bool false) (r := regs) (p := (k : Int) + 1) (ov := false) (fr := far) HM.out rfl)
    have HBy := Aside0.mk (And.intro (blk_far HBx.out.1 (p := ⟨g, 12, none⟩) (by show w.heap.size ≠ g; omega) (.bool false)) (blk_far HBx.out.2 (p := ⟨g, 12, none⟩) (by show w.heap.size + 1 ≠ g; omega) (.bool false)))
    have x1 : (wc.setCell ⟨g, 12, none⟩ (.bool false)).cell? ⟨gb, q, none⟩ = some (.int .i64 xq) := (World.cell?_of_block (a := ⟨gb, q, none⟩) (Below.heap_setCell wc ⟨g, 12, none⟩ (.bool false) gb hgne)).trans HC1.out
    clear m0 m1 m2 m3 m4 m5 l0 l1 r10 r12 f12 HC1
    generalize wc.setCell ⟨g, 12, none⟩ (.bool false) = wd at *
    have l0 : wd.cell? ⟨w.heap.size + 1, 0, none⟩ = some (.int .i64 k) := blk_cell HBy.out.2 0
    have l1 : wd.cell? ⟨w.heap.size + 1, 1, none⟩ = some (.int .i64 (-1)) := blk_cell HBy.out.2 1
    have r12 : wd.cell? ⟨g, 12, none⟩ = some (.bool false) := blk_cell HM1.out.box 12
    have r11 : wd.cell? ⟨g, 11, none⟩ = some (.int .i64 ((k : Int) + 1)) := blk_cell HM1.out.box 11
    have f11 := blk_frozen HM1.out.box 11
    have r10 : wd.cell? ⟨g, 10, none⟩ = some (.slice (some ⟨gb, 0, none⟩) (q + 1) cb) := by rw [← HQ.out]; exact blk_cell HM1.out.box 10
    have f10 := blk_frozen HM1.out.box 10
    go_upto_region 31 with (fail)
    have HM3 := Aside0.mk (MW.upd (j := 11) (u := .int .i64 xq) (r := regs) (p := xq) (ov := false) (fr := far) HM1.out rfl)
    have HBz := Aside0.mk (And.intro (blk_far HBy.out.1 (p := ⟨g, 11, none⟩) (by show w.heap.size ≠ g; omega) (.int .i64 xq)) (blk_far HBy.out.2 (p := ⟨g, 11, none⟩) (by show w.heap.size + 1 ≠ g; omega) (.int .i64 xq)))
    clear l0 l1 r12 r11 f11 r10 f10 x1
    generalize wd.setCell ⟨g, 11, none⟩ (.int .i64 xq) = we at *
    have l0 : we.cell? ⟨w.heap.size + 1, 0, none⟩ = some (.int .i64 k) := blk_cell HBz.out.2 0
    have l1 : we.cell? ⟨w.heap.size + 1, 1, none⟩ = some (.int .i64 (-1)) := blk_cell HBz.out.2 1
    have r10 : we.cell? ⟨g, 10, none⟩ = some (.slice (some ⟨gb, 0, none⟩) (q + 1) cb) := by rw [← HQ.out]; exact blk_cell HM3.out.box 10
    have f10 := blk_frozen HM3.out.box 10
    have HM4 := Aside0.mk (MW.pop (q := q) HM3.out (by show q ≤ back.length; have := HQ.out; omega) (by show 0 < back.length; have := HQ.out; omega))
    go_wp2_with (go_at_call 36; (with_reducible refine (keep_any ⟨(k : Int), (-1 : Int)⟩ w0 _ B g gl gm _ _ lv _ out (HM4.out) hl).mono ?_); rintro e w2 ⟨rfl, lv', hM2⟩; have HM2 := Aside0.mk hM2; clear hM2)
    go_end0
    exact ⟨rfl, _, _, by rw [HD2.out]; exact HM2.out⟩
end Go.Proofs.Ytddnbpgibfmolaa
