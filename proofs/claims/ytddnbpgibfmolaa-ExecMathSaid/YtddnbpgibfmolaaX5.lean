/- carlingref14.Right: may an image be run? -/
import Derived.Test.YtddnbpgibfmolaaX4
import Derived.Test.YtddnbpgibfmolaaM6
namespace Go.Proofs.Ytddnbpgibfmolaa
open Go.RowKit Go.Proofs.YtddnbpgibfmolaaW.PrintWords
set_option linter.unusedVariables false

def roomN (p : List Ty) : Int := (p.map (fun t => max t.len 1)).sum
theorem roomN_succ {p : List Ty} {k : Nat} {t : Ty} (h : p[k]? = some t) : roomN (p.take (k + 1)) = roomN (p.take k) + max t.len 1 := by
  rw [take_snoc_at h]
  simp [roomN]
theorem roomN_eq {p : List Ty} (h : ∀ t ∈ p, 0 ≤ t.len ∧ t.len ≤ 16) : roomN p = (wordsN p : Int) + cellsN p := by
  induction p with
  | nil => rfl
  | cons t p ih =>
    have h1 := h t List.mem_cons_self
    have h2 := ih (fun t ht => h t (List.mem_cons_of_mem _ ht))
    rw [wordsN_cons, cellsN_cons, show roomN (t :: p) = max t.len 1 + roomN p by simp [roomN], h2]
    split <;> omega
theorem roomN_bd {p : List Ty} (h : ∀ t ∈ p, 0 ≤ t.len ∧ t.len ≤ 16) : 0 ≤ roomN p ∧ roomN p ≤ 16 * p.length := by
  induction p with
  | nil => simp [roomN]
  | cons t p ih =>
    have h1 := h t List.mem_cons_self
    have h2 := ih (fun t ht => h t (List.mem_cons_of_mem _ ht))
    rw [show roomN (t :: p) = max t.len 1 + roomN p by simp [roomN], List.length_cons]
    omega
theorem lastN_snoc (l : List Entry) (x : Entry) : ∀ n, lastN n (l ++ [x]) = x.name := by
  induction l with
  | nil => intro n; rfl
  | cons y l ih => intro n; exact ih y.name
theorem lastN_take {l : List Entry} {j : Nat} {x : Entry} (h : l[j]? = some x) (n : ByteArray) : lastN n (l.take (j + 1)) = x.name := by
  rw [take_snoc_at h]
  exact lastN_snoc _ _ _
theorem named_pos {s : ByteArray} (h : namedB s = true) : Op.bytesLess (⟨#[]⟩ : ByteArray).toList s.toList = true := by
  have hp : 0 < s.size := by
    unfold namedB at h
    cases hd : dotAt s with
    | none => rw [hd] at h; cases h
    | some j => have := dotAt_lt hd; omega
  have := size_pos hp
  rw [ByteArray.toList_eq] at this ⊢
  rw [ByteArray.toList_eq]
  cases hl : s.data.toList with
  | nil => rw [hl] at this; cases this
  | cons a l => rfl

set_option maxHeartbeats 32000000 in
set_option maxRecDepth 100000 in
theorem rright_any (m : Image) (A0 : Option Addr) (c0 : Nat) (A1 : Option Addr) (c1 : Nat) (w : World) (hok : ImgOk m) (hat : ImgAt w m A0 c0 A1 c1) :
    Calls Try.prog 21 #[imgV m A0 c0 A1 c1] w fun e w' => e = .returned (.bool (imgB m)) ∧ Below w.heap.size w w' := by
  have HT := Aside0.mk hat
  have HO := Aside0.mk hok
  have hel := hok.ents
  have HI := Aside0.mk (img_ents m)
  have HK := Aside0.mk (fun W hb => mcheck_any m.code m.mem A1 c1 W (HT.out.below hb).code hok.n)
  have HF := Aside0.mk (fun h => fine_of (l := m.code) (cells := m.mem) h)
  clear hat hok
  have hu := Try.underlying31
  have hu2 := Try.underlying36
  have hu3 := Try.underlying33
  generalize hE : mcheckE m.code m.mem = E at *
  obtain ⟨er, ea⟩ := E
  have HX := Aside0.mk (fun (W : World) (h : Below (w.heap.size + 1) (w.alloc (.cells #[.slice A0 m.entries.length c0, .slice A1 m.code.length c1, .int .i64 m.mem] 31)) W) => (show W.cell? ⟨w.heap.size, 0, none⟩ = some (.slice A0 m.entries.length c0) ∧ W.cell? ⟨w.heap.size, 1, none⟩ = some (.slice A1 m.code.length c1) ∧ W.cell? ⟨w.heap.size, 2, none⟩ = some (.int .i64 m.mem) from
    ⟨box_cells h 0, box_cells h 1, box_cells h 2⟩))
  simp only [imgV] at *
  clear hE
  by_cases he : er = 0
  · subst he
    have HG := Aside0.mk (HF.out rfl)
    have hm0 := HG.out.c0
    have hm1 := HG.out.c1
    have hcl := HG.out.len
    have HI2 := Aside0.mk (show imgB m = entsB m.code.length m.mem ⟨#[]⟩ m.entries by rw [HI.out]; simp)
    generalize hr : entsB m.code.length m.mem ⟨#[]⟩ m.entries = r at *
    have HS0 := Aside0.mk hr
    clear hr HF
    go_enter Try.func21, Try.ntmps21
    go_wp2_with (go_at_call 41; (with_reducible refine (HK.out _ (below_alloc (Below.refl _ _) _)).mono ?_); rintro e w1 ⟨rfl, hB1⟩; have HB1 := Aside0.mk (show Below (w.heap.size + 1) _ w1 from by simpa using hB1); clear hB1; obtain ⟨g0, g1, g2⟩ := HX.out w1 HB1.out)
    go_loopw [5] (fun v5 wr => ∃ (k : Nat), k ≤ m.entries.length ∧ v5 = .int .i64 k ∧ Aside0 (entsB m.code.length m.mem (lastN ⟨#[]⟩ (m.entries.take k)) (m.entries.drop k) = r) ∧ Aside0 (Below (w.heap.size + 1) (w.alloc (.cells #[.slice A0 m.entries.length c0, .slice A1 m.code.length c1, .int .i64 m.mem] 31)) wr)) (fun v5 _ => m.entries.length - (intOf v5).toNat)
    case atStart => exact ⟨0, Nat.zero_le _, rfl, HS0, HB1⟩
    case round =>
      obtain ⟨k, hk, rfl, HS, HB⟩ := hrel
      clear g0 g1 g2
      obtain ⟨g0, g1, g2⟩ := HX.out wr HB.out
      have hlt0 := box_lt HB.out
      by_cases hlt : k < m.entries.length
      · obtain ⟨x, ad, Ap, cp, rfl, hx, h0, h1, h2, h3, h4, hlp, hCp⟩ := nt_Entry HT.out.ents (below_of_box HB.out) k hlt
        have HXk := Aside0.mk hx
        have HD := Aside0.mk (drop_at hx)
        have HN := Aside0.mk (show x.name.size ≤ 140737488351232 by have := HO.out.names x (at_mem hx); omega)
        have HC := Aside0.mk hCp
        have hpl := HO.out.params x (at_mem hx)
        clear hx hCp
        have HS2 := Aside0.mk (show (entB x m.code.length m.mem && (Op.bytesLess (lastN ⟨#[]⟩ (m.entries.take k)).toList x.name.toList && entsB m.code.length m.mem x.name (m.entries.drop (k + 1)))) = r by have := HS.out; rw [HD.out] at this; exact this)
        obtain ⟨name, params, pos, base, cells⟩ := x
        simp only at *
        have HL1 := Aside0.mk (lastN_take HXk.out ⟨#[]⟩)
        have HQ := Aside0.mk (fun W => rnamed_any name W HN.out)
        go_upto_region 8 with (fail)
        go_cut [56] (fun v56 wc => v56 = .bool (!(namedB name && (decide (k = 0) || Op.bytesLess (lastN ⟨#[]⟩ (m.entries.take k)).toList name.toList) && decide (params.length ≤ 6))) ∧ ∃ n, wc = (wr.alloc (.cells #[.string name, .slice Ap params.length cp, .int .i64 pos, .int .i64 base, .int .i64 cells] 36)).drewN n)
        case first =>
          cases hb : namedB name
          all_goals have HBN := Aside0.mk hb
          · have HV := Aside0.mk (show (!(false && (decide (k = 0) || Op.bytesLess (lastN ⟨#[]⟩ (m.entries.take k)).toList name.toList) && decide (params.length ≤ 6))) = true by simp)
            rw [hb] at HQ
            go_quiet ((go_at_call 42; exact Calls.quiet_of (HQ.out _)))
            go_wp2
            go_meet
            case rel => exact ⟨by rw [HBN.out]; (try rw [HL.out]); (try rw [hls]); rw [HV.out], _, rfl⟩
          · rw [hb] at HQ
            clear hb
            rcases Nat.eq_zero_or_pos k with hk0 | hk0
            · subst hk0
              by_cases h6 : 6 < params.length
              · have HV := Aside0.mk (show (!(true && (decide ((0 : Nat) = 0) || Op.bytesLess (lastN ⟨#[]⟩ (m.entries.take 0)).toList name.toList) && decide (params.length ≤ 6))) = true by simp; omega)
                have h6d : decide ((6 : Int) < (params.length : Int)) = true := decide_eq_true (by omega)
                go_quiet ((go_at_call 42; exact Calls.quiet_of (HQ.out _)))
                go_wp2
                go_meet
                case rel => exact ⟨by rw [HBN.out]; (try rw [HL.out]); (try rw [hls]); rw [HV.out], _, rfl⟩
              · have HV := Aside0.mk (show (!(true && (decide ((0 : Nat) = 0) || Op.bytesLess (lastN ⟨#[]⟩ (m.entries.take 0)).toList name.toList) && decide (params.length ≤ 6))) = false by simp; omega)
                have h6d : decide ((6 : Int) < (params.length : Int)) = false := decide_eq_false (by omega)
                go_quiet ((go_at_call 42; exact Calls.quiet_of (HQ.out _)))
                go_wp2
                go_meet
                case rel => exact ⟨by rw [HBN.out]; (try rw [HL.out]); (try rw [hls]); rw [HV.out], _, rfl⟩
            · obtain ⟨j, rfl⟩ : ∃ j, k = j + 1 := ⟨k - 1, by omega⟩
              obtain ⟨y, ad', Ap', cp', e', hy, y0, y1, y2, y3, y4, hlp', hCp'⟩ := nt_Entry HT.out.ents (below_of_box HB.out) j (by omega)
              injection e' with e'
              subst e'
              have HL := Aside0.mk (lastN_take hy ⟨#[]⟩)
              clear y1 y2 y3 y4 hlp' hCp' hy
              generalize y.name = yn at *
              have s1 : IntKind.i64.wrap (((j + 1 : Nat) : Int) - 1) = (j : Int) := by rw [show ((j + 1 : Nat) : Int) - 1 = (j : Int) by omega]; exact IntWalk.i64_in _ (by omega)
              have s2 : (0 : Int) < ((j + 1 : Nat) : Int) := by omega
              have s3 : decide ((0 : Int) < ((j + 1 : Nat) : Int)) = true := decide_eq_true s2
              have s4 : decide ((0 : Nat) < j + 1) = true := decide_eq_true (by omega)
              have L1 : ∀ o, ((wr.alloc o).cell? (ad.add (j * 5))) = some (.string yn) := fun o => pw_cell_below (below_alloc (Below.refl _ _) o) y0
              cases hls : Op.bytesLess yn.toList name.toList
              · have HV := Aside0.mk (show (!(true && (decide (j + 1 = 0) || false) && decide (params.length ≤ 6))) = true by simp)
                go_quiet ((go_at_call 42; exact Calls.quiet_of (HQ.out _)))
                go_wp2
                go_meet
                case rel => exact ⟨by rw [HBN.out]; (try rw [HL.out]); (try rw [hls]); rw [HV.out], _, rfl⟩
              · by_cases h6 : 6 < params.length
                · have HV := Aside0.mk (show (!(true && (decide (j + 1 = 0) || true) && decide (params.length ≤ 6))) = true by simp; omega)
                  have h6d : decide ((6 : Int) < (params.length : Int)) = true := decide_eq_true (by omega)
                  go_quiet ((go_at_call 42; exact Calls.quiet_of (HQ.out _)))
                  go_wp2
                  go_meet
                  case rel => exact ⟨by rw [HBN.out]; (try rw [HL.out]); (try rw [hls]); rw [HV.out], _, rfl⟩
                · have HV := Aside0.mk (show (!(true && (decide (j + 1 = 0) || true) && decide (params.length ≤ 6))) = false by simp; omega)
                  have h6d : decide ((6 : Int) < (params.length : Int)) = false := decide_eq_false (by omega)
                  go_quiet ((go_at_call 42; exact Calls.quiet_of (HQ.out _)))
                  go_wp2
                  go_meet
                  case rel => exact ⟨by rw [HBN.out]; (try rw [HL.out]); (try rw [hls]); rw [HV.out], _, rfl⟩
        case rest =>
          obtain ⟨rfl, n, rfl⟩ := hcut
          have HE := Aside0.mk (show entB ⟨name, params, pos, base, cells⟩ m.code.length m.mem = (namedB name && decide (params.length ≤ 6) && params.all lenOk && decide (0 ≤ pos ∧ pos < m.code.length ∧ 0 ≤ base ∧ base ≤ m.mem ∧ (wordsN params : Int) + cellsN params ≤ cells ∧ cells ≤ m.mem - base)) from rfl)
          cases hv : (namedB name && (decide (k = 0) || Op.bytesLess (lastN ⟨#[]⟩ (m.entries.take k)).toList name.toList) && decide (params.length ≤ 6))
          · have HZ := Aside0.mk (show r = false by
              rw [← HS2.out, HE.out]
              cases h1 : namedB name <;> cases h2 : decide (params.length ≤ 6) <;> cases h3 : Op.bytesLess (lastN ⟨#[]⟩ (m.entries.take k)).toList name.toList <;> simp [h1, h2, h3] at hv ⊢)
            go_wp2
            go_ret
            exact ⟨ret_bool (by rw [HI2.out, HZ.out]), below_of_box (pw_below_drewN (box_alloc HB.out) n)⟩
          · rw [Bool.and_eq_true, Bool.and_eq_true, Bool.or_eq_true, decide_eq_true_eq, decide_eq_true_eq] at hv
            obtain ⟨⟨hv1, hv2⟩, hv3⟩ := hv
            have HLs := Aside0.mk (show Op.bytesLess (lastN ⟨#[]⟩ (m.entries.take k)).toList name.toList = true by
              rcases hv2 with rfl | h
              · exact named_pos hv1
              · exact h)
            have HE2 := Aside0.mk (show (params.all lenOk && decide (0 ≤ pos ∧ pos < m.code.length ∧ 0 ≤ base ∧ base ≤ m.mem ∧ (wordsN params : Int) + cellsN params ≤ cells ∧ cells ≤ m.mem - base) && entsB m.code.length m.mem name (m.entries.drop (k + 1))) = r by
              rw [← HS2.out, HE.out, hv1, HLs.out, decide_eq_true hv3]; simp)
            clear hv1 hv2 HE HS2 HS HLs
            have HB2 := Aside0.mk (pw_below_drewN (box_alloc (o' := .cells #[.string name, .slice Ap params.length cp, .int .i64 pos, .int .i64 base, .int .i64 cells] 36) HB.out) n)
            have HC2 := Aside0.mk (Kd.C_below HC.out (pw_below_drewN (below_alloc (Below.refl _ _) (.cells #[.string name, .slice Ap params.length cp, .int .i64 pos, .int .i64 base, .int .i64 cells] 36)) n))
            have hbk := blk_drewN (blk_new wr (.cells #[.string name, .slice Ap params.length cp, .int .i64 pos, .int .i64 base, .int .i64 cells] 36)) n
            have q1 := blk_cell hbk 1
            have q2 := blk_cell hbk 2
            have q3 := blk_cell hbk 3
            have q4 := blk_cell hbk 4
            clear hbk h0 h1 h2 h3 h4 g0 g1 g2
            obtain ⟨g0, g1, g2⟩ := HX.out _ HB2.out
            generalize (wr.alloc (.cells #[.string name, .slice Ap params.length cp, .int .i64 pos, .int .i64 base, .int .i64 cells] 36)).drewN n = wo at *
            simp only [List.getElem?_toArray, List.getElem?_cons_succ, List.getElem?_cons_zero] at q1 q2 q3 q4
            go_wp2
            go_loop [7, 8] (fun v7 v8 => ∃ i : Nat, i ≤ params.length ∧ v8 = .int .i64 i ∧ v7 = .int .i64 (roomN (params.take i)) ∧ Aside0 ((params.take i).all lenOk = true)) (fun _ v8 => params.length - (intOf v8).toNat)
            case atStart => exact ⟨0, Nat.zero_le _, rfl, rfl, ⟨rfl⟩⟩
            case round =>
              obtain ⟨i, hi, rfl, rfl, HA⟩ := hrel
              have hrb := roomN_bd (p := params.take i) (fun t ht => by have := List.all_eq_true.1 HA.out t ht; simpa [lenOk] using this)
              have hil : (params.take i).length ≤ i := List.length_take_le _ _
              by_cases hit : i < params.length
              · obtain ⟨t, ad2, rfl, ht, t0, t1⟩ := nt_Ty HC2.out (Below.refl _ _) i hit
                have HTt := Aside0.mk ht
                have HRs := Aside0.mk (roomN_succ ht)
                clear ht
                obtain ⟨s, len⟩ := t
                simp only at t0 t1 HRs
                by_cases ho : 0 ≤ len ∧ len ≤ 16
                · have HN2 := Aside0.mk (all_snoc (f := lenOk) HTt.out HA.out (by simp [lenOk, ho]))
                  obtain ⟨ho1, ho2⟩ := ho
                  by_cases hz : 1 ≤ len
                  · go_wp2
                    go_round
                    case rel => exact ⟨i + 1, by omega, by go_num, by rw [HRs.out], HN2⟩
                    case measure => simp [intOf]; omega
                  · obtain rfl : len = 0 := by omega
                    go_wp2
                    go_round
                    case rel => exact ⟨i + 1, by omega, by go_num, by rw [HRs.out], HN2⟩
                    case measure => simp [intOf]; omega
                · have HN2 := Aside0.mk (all_false (f := lenOk) HTt.out (by simp [lenOk]; omega))
                  have HZ := Aside0.mk (show r = false by rw [← HE2.out, HN2.out]; rfl)
                  have hx : len < 0 ∨ 16 < len := by omega
                  clear ho
                  rcases hx with hx | hx
                  · go_wp2
                    go_ret
                    exact ⟨ret_bool (by rw [HI2.out, HZ.out]), below_of_box HB2.out⟩
                  · have hx2 : ¬ len < 0 := by omega
                    go_wp2
                    go_ret
                    exact ⟨ret_bool (by rw [HI2.out, HZ.out]), below_of_box HB2.out⟩
              · obtain rfl : i = params.length := by omega
                have HAll := Aside0.mk (show params.all lenOk = true by have := HA.out; rwa [List.take_length] at this)
                have hle : ∀ t ∈ params, 0 ≤ t.len ∧ t.len ≤ 16 := fun t ht => by have := List.all_eq_true.1 HAll.out t ht; simpa [lenOk] using this
                have HRe := Aside0.mk (roomN_eq hle)
                have hw1 := wordsN_le params
                have hcn := cellsN_bd params hle
                rw [List.take_length]
                rw [List.take_length] at hrb
                clear hle
                have HE3 := Aside0.mk (show (decide (0 ≤ pos ∧ pos < m.code.length ∧ 0 ≤ base ∧ base ≤ m.mem ∧ roomN params ≤ cells ∧ cells ≤ m.mem - base) && entsB m.code.length m.mem name (m.entries.drop (k + 1))) = r by
                  rw [← HE2.out, HAll.out, HRe.out]; simp)
                generalize roomN params = R at *
                by_cases p0 : pos < 0
                · have HZ := Aside0.mk (show r = false by rw [← HE3.out, decide_eq_false (by omega)]; rfl)
                  go_wp2
                  go_ret
                  exact ⟨ret_bool (by rw [HI2.out, HZ.out]), below_of_box HB2.out⟩
                by_cases p1 : (m.code.length : Int) ≤ pos
                · have HZ := Aside0.mk (show r = false by rw [← HE3.out, decide_eq_false (by omega)]; rfl)
                  go_wp2
                  go_ret
                  exact ⟨ret_bool (by rw [HI2.out, HZ.out]), below_of_box HB2.out⟩
                by_cases b0 : base < 0
                · have HZ := Aside0.mk (show r = false by rw [← HE3.out, decide_eq_false (by omega)]; rfl)
                  go_wp2
                  go_ret
                  exact ⟨ret_bool (by rw [HI2.out, HZ.out]), below_of_box HB2.out⟩
                by_cases b1 : 4096 < base
                · have HZ := Aside0.mk (show r = false by rw [← HE3.out, decide_eq_false (by omega)]; rfl)
                  go_wp2
                  go_ret
                  exact ⟨ret_bool (by rw [HI2.out, HZ.out]), below_of_box HB2.out⟩
                by_cases c0' : cells < R
                · have HZ := Aside0.mk (show r = false by rw [← HE3.out, decide_eq_false (by omega)]; rfl)
                  go_wp2
                  go_ret
                  exact ⟨ret_bool (by rw [HI2.out, HZ.out]), below_of_box HB2.out⟩
                by_cases c1' : 4096 < cells
                · have HZ := Aside0.mk (show r = false by rw [← HE3.out, decide_eq_false (by omega)]; rfl)
                  go_wp2
                  go_ret
                  exact ⟨ret_bool (by rw [HI2.out, HZ.out]), below_of_box HB2.out⟩
                by_cases c2 : m.mem < base + cells
                · have HZ := Aside0.mk (show r = false by rw [← HE3.out, decide_eq_false (by omega)]; rfl)
                  go_wp2
                  go_ret
                  exact ⟨ret_bool (by rw [HI2.out, HZ.out]), below_of_box HB2.out⟩
                · have HZ := Aside0.mk (show entsB m.code.length m.mem (lastN ⟨#[]⟩ (m.entries.take (k + 1))) (m.entries.drop (k + 1)) = r by rw [← HE3.out, HL1.out, decide_eq_true (by omega)]; simp)
                  go_wp2
                  go_roundw
                  case rel => exact ⟨k + 1, by omega, by go_num, HZ, HB2⟩
                  case measure => simp [intOf]; omega
      · obtain rfl : m.entries.length = k := by omega
        have HZ := Aside0.mk (show r = true by rw [← HS.out, List.drop_length]; rfl)
        go_wp2
        go_ret
        exact ⟨ret_bool (by rw [HI2.out, HZ.out]), below_of_box HB.out⟩
  · have hne : (er != 0) = true := by simp [he]
    have HZ := Aside0.mk (show imgB m = false by rw [HI.out]; simp [he])
    clear he HF
    go_enter Try.func21, Try.ntmps21
    go_wp2_with (go_at_call 41; (with_reducible refine (HK.out _ (below_alloc (Below.refl _ _) _)).mono ?_); rintro e w1 ⟨rfl, hB1⟩; have HB1 := Aside0.mk (show Below (w.heap.size + 1) _ w1 from by simpa using hB1); clear hB1; obtain ⟨g0, g1, g2⟩ := HX.out w1 HB1.out)
    go_ret
    exact ⟨ret_bool HZ.out.symm, below_of_box HB1.out⟩
end Go.Proofs.Ytddnbpgibfmolaa
