/- The document's Parse: the walk. -/
import Derived.Test.YtkphllolghlmeaaDoorHdU
import Derived.Deep.DeepCutAuto
import Derived.Deep.CutBlock
namespace Go.Proofs.YtkphllolghlmeaaDoor
open Go.RowKit

theorem u8ne {c : UInt8} {n : Nat} (hn : n < 256) : ((c.toNat : Int) != (n : Int)) = !(c == UInt8.ofNat n) := by
  rw [← u8_eq_iff c n hn]; rfl
theorem blankHead_at {l : List UInt8} {c : UInt8} (h : l[0]? = some c) : blankHead l = isBlank c := by
  cases l with
  | nil => simp at h
  | cons a r => simp at h; subst h; rfl
set_option maxRecDepth 100000 in
set_option maxHeartbeats 32000000 in
theorem ref_parse (w : World) (s : ByteArray) (hs : s.size ≤ 1000000) :
    Calls Tryd.prog 14 #[.string s] w (ParseOut s w) := by
  go_enter Tryd.func14, Tryd.ntmps14
  go_wp2
  go_loopg [5, 6, 7, 8] (s.size + 4) (fun gk v5 v6 v7 v8 wr => ∃ (A : Option Addr) (n c f i : Nat) (d : Bool) (L : List (List UInt8)), v5 = .slice A n c ∧ v6 = .int .i64 f ∧ v7 = .int .i64 i ∧ v8 = .bool d ∧ f ≤ i ∧ i ≤ s.size ∧ n ≤ i ∧ i + gk = s.size + 4 ∧
    Hid (n = L.length) ∧ Hid (ScanI s.data.toList L f i d) ∧ Hid (Own wr 9 1 A n c (strsC L)) ∧ Hid (∀ k, blkOf A = some k → w.heap.size ≤ k) ∧ Hid (Chg NoB w wr))
  case atStart => exact ⟨none, 0, 0, 0, 0, false, [], rfl, rfl, rfl, rfl, by omega, by omega, by omega, by omega, hid rfl, hid (ScanI.zero _), hid (Own.nil _ _ _), hid (fun k h => by cases h), hid (Chg.refl _ _)⟩
  case round =>
    obtain ⟨A, n, c, f, i, d, L, rfl, rfl, rfl, rfl, hfi, his, hni, hgk, HN, HI, HO, HB, HC⟩ := hrel
    by_cases hgo : i + 1 < s.size ∧ d = false
    · obtain ⟨hlt, rfl⟩ := hgo
      have t1 : decide ((i : Int) + 1 < (s.size : Int)) = true := decide_eq_true (by omega)
      have t2 : decide (i + 1 < s.size) = true := decide_eq_true hlt
      have i0 : (0 : Int) ≤ (i : Int) := by omega
      have i1 : (i : Int) < (s.size : Int) := by omega
      have i2 : (0 : Int) ≤ (i : Int) + 1 := by omega
      have i3 : (i : Int) + 1 < (s.size : Int) := by omega
      obtain ⟨x, hx, hxl⟩ := byte_at s i (by omega)
      obtain ⟨y, hy, hyl⟩ := byte_at s (i + 1) hlt
      have HX := hid hxl
      have HY := hid hyl
      clear hxl hyl
      by_cases h13 : x = 13
      · have d1 : ((x.toNat : Int) != 13) = false := by rw [h13]; rfl
        by_cases h10 : y = 10
        · have d2 : ((y.toNat : Int) != 10) = false := by rw [h10]; rfl
          have HT := hid (And.intro h13 h10)
          clear h13 h10
          by_cases hif : i = f
          · have d3 : ((i : Int) == (f : Int)) = true := by rw [beq_iff_eq]; omega
            have HS : Hid (ScanI s.data.toList L (i + 2) (i + 2) true) := hid (by have := HI.out; rw [← hif] at this; exact this.stop HX.out HY.out HT.out)
            clear hif
            go_wp2
            go_roundg (gk - 2)
            case measure => omega
            case rel => exact ⟨A, n, c, i + 2, i + 2, true, L, rfl, by go_num, by go_num, rfl, by omega, by omega, by omega, by omega, HN, HS, HO, HB, HC⟩
          · have d3 : ((i : Int) == (f : Int)) = false := by rw [beq_eq_false_iff_ne]; omega
            have HS := hid (HI.out.line (fun e => hif e.symm) HX.out HY.out HT.out)
            obtain ⟨ln, hln⟩ : ∃ ln, ln = s.extract f i := ⟨_, rfl⟩
            have m1 : n + 1 ≤ maxLen := by unfold maxLen; omega
            have m2 : (n + 1) * 16 ≤ 140737488355328 := by omega
            have hsl := extract_str s f i
            have HSL := hid hsl
            clear hif hsl hln ln
            go_wp2_with (first
              | ((with_reducible refine wpList_append_all rfl (.tmp 42) (.tmp 47) 48 48 rfl 9 (.string ⟨#[]⟩) 1 16 rfl info_str rfl A n c rfl _ (HO.out.alloc _) (.slice (some ⟨wr.heap.size, 0, none⟩) 1 1) rfl 1 [.string (s.extract f i)] ((Blk.new _ _ _).srcOf (e' := 9) rfl rfl (by simp [Value.oneCell'])) m1 m2 ?_); intro A' c' w2 ho2 hc2 hb2; have HO2 := hid ho2; have HC2 := hid hc2; have HB2 := hid hb2; clear ho2 hc2 hb2))
            go_roundg (gk - 2)
            case measure => omega
            case rel =>
              refine ⟨A', n + 1, c', i + 2, i + 2, false, _, rfl, by go_num, by go_num, rfl, by omega, by omega, by omega, by omega, hid (by rw [List.length_append, ← HN.out]; rfl), HS, hid ?_, hid ?_, hid ?_⟩
              · rw [strsC_append]
                have := HO2.out
                rw [HSL.out] at this
                exact this
              · intro k hk
                have h1 := (HC.out.alloc (.cells #[.string (s.extract f i)] 9)).size
                rcases HB2.out with e | e
                · exact HB.out k (by rw [← e]; exact hk)
                · rw [e] at hk; injection hk with hk; omega
              · exact ((HC.out.alloc _).trans HC2.out (fun k hk e => by have := HB.out k e; omega))
        · have d2 : ((y.toNat : Int) != 10) = true := by
            simp only [bne_iff_ne, ne_eq]; intro e; exact h10 (UInt8.toNat_inj.1 (by show y.toNat = 10; omega))
          have HS := hid (HI.out.skip HX.out HY.out (fun e => h10 e.2))
          clear h13 h10
          go_wp2
          go_roundg (gk - 1)
          case measure => omega
          case rel => exact ⟨A, n, c, f, i + 1, false, L, rfl, rfl, by go_num, rfl, by omega, by omega, by omega, by omega, HN, HS, HO, HB, HC⟩
      · have d1 : ((x.toNat : Int) != 13) = true := by
          simp only [bne_iff_ne, ne_eq]; intro e; exact h13 (UInt8.toNat_inj.1 (by show x.toNat = 13; omega))
        have HS := hid (HI.out.skip HX.out HY.out (fun e => h13 e.1))
        clear h13
        go_wp2
        go_roundg (gk - 1)
        case measure => omega
        case rel => exact ⟨A, n, c, f, i + 1, false, L, rfl, rfl, by go_num, rfl, by omega, by omega, by omega, by omega, HN, HS, HO, HB, HC⟩
    · have tests : (d = false ∧ decide ((i : Int) + 1 < (s.size : Int)) = false) ∨ (d = true ∧ decide ((i : Int) + 1 < (s.size : Int)) = false) ∨ (d = true ∧ decide ((i : Int) + 1 < (s.size : Int)) = true) := by
        by_cases hlt : i + 1 < s.size
        · cases d
          · exact absurd ⟨hlt, rfl⟩ hgo
          · exact .inr (.inr ⟨rfl, decide_eq_true (by omega)⟩)
        · cases d
          · exact .inl ⟨rfl, decide_eq_false (by omega)⟩
          · exact .inr (.inl ⟨rfl, decide_eq_false (by omega)⟩)
      clear hgo
      rcases tests with ⟨rfl, t1⟩ | t
      · have HP := hid (parse_none (HI.out.none (by rw [len_data]; have := of_decide_eq_false t1; omega)))
        go_wp2
        go_ret3
        exact ParseOut.bad HP.out rfl HC.out
      · obtain rfl : d = true := by rcases t with t | t <;> exact t.1
        have t' : decide ((i : Int) + 1 < (s.size : Int)) = false ∨ decide ((i : Int) + 1 < (s.size : Int)) = true := by rcases t with t | t; exact .inl t.2; exact .inr t.2
        clear t
        have hsc : scan [] s.data.toList = some (L, s.data.toList.drop f) := HI.out
        have hlen := scan_len _ _ _ _ hsc
        rw [len_data, List.length_nil] at hlen
        have hsum : (L.map List.length).sum ≤ 1000000 := by omega
        have HSC := hid hsc
        have HNE := hid (scan_ne _ _ _ _ hsc)
        have HSUM := hid hsum
        have HLL : Hid (∀ l ∈ L, l.length ≤ 1000000) := hid (fun l hl => Nat.le_trans (len_le_sum hl) HSUM.out)
        have hn6 : n ≤ 1000000 := by omega
        have hfs : f ≤ s.size := by omega
        clear hsc hlen hsum HI
        have HBF : Hid (∀ k, blkOf A = some k → k < wr.heap.size) := hid (fun k hk => HO.out.lt hk)
        have hwr := HC.out.size
        obtain ⟨BC, hBC⟩ : ∃ BC, BC = wr.heap.size := ⟨_, rfl⟩
        have HBC : Hid (BC = wr.heap.size ∧ w.heap.size ≤ BC) := hid ⟨hBC, by omega⟩
        clear hwr hBC HB
        rcases t' with t1 | t1
        all_goals
          go_wp2
          clear t1
          go_loop [9] (fun v => ∃ i : Nat, v = .int .i64 i ∧ i ≤ n ∧ Hid (TillL (fun l => !long1 l) L i)) (fun v => n - (intOf v).toNat)
          case atStart => exact ⟨0, rfl, by omega, hid (TillL.zero _ _)⟩
          case round =>
            obtain ⟨j, rfl, hj, HT⟩ := hrel
            by_cases hlt : j < n
            · have t1 : decide ((j : Int) < (n : Int)) = true := decide_eq_true (by omega)
              have t2 : decide (j < n) = true := decide_eq_true hlt
              have i0 : (0 : Int) ≤ (j : Int) := by omega
              have i1 : (j : Int) < (n : Int) := by omega
              obtain ⟨g, rfl, _⟩ := HO.out.addr (by omega)
              obtain ⟨l, hl⟩ : ∃ l, L[j]? = some l := ⟨_, List.getElem?_eq_getElem (by rw [← HN.out]; exact hlt)⟩
              have kc : wr.cell? ⟨g, j, none⟩ = some (.string (str l)) := HO.out.cell rfl j _ (strsC_get hl)
              have hll := HLL.out l (List.mem_of_getElem? hl)
              have HL := hid hl
              have HSS := hid (str_size l)
              have hsb : (str l).size ≤ 1000000 := by rw [str_size]; exact hll
              clear hl
              cases h998 : long1 l
              · have hq : ¬ 998 < l.length := of_decide_eq_false h998
                have u3 : decide (998 < ((str l).size : Int)) = false := decide_eq_false (by rw [HSS.out]; omega)
                have u4 : decide (998 < (str l).size) = false := decide_eq_false (by rw [HSS.out]; omega)
                clear hq
                go_wp2
                go_round
                case rel => exact ⟨j + 1, by go_num, by omega, hid (HT.out.succ HL.out (by rw [h998]; rfl))⟩
                case measure => simp [intOf]; omega
              · have hq : 998 < l.length := of_decide_eq_true h998
                have u3 : decide (998 < ((str l).size : Int)) = true := decide_eq_true (by rw [HSS.out]; omega)
                have u4 : decide (998 < (str l).size) = true := decide_eq_true (by rw [HSS.out]; omega)
                have HP := hid (parse_long HSC.out (any_is_l HL.out h998))
                clear hq
                go_wp2
                go_ret3
                exact ParseOut.bad HP.out rfl HC.out
            · have t1 : decide ((j : Int) < (n : Int)) = false := decide_eq_false (by omega)
              have t2 : decide (j < n) = false := decide_eq_false hlt
              have HLG := hid (any_none (HT.out.all (by rw [← HN.out]; omega)))
              clear HT
              go_wp2
              clear t1 t2 hlt hj
              obtain ⟨w1, rfl⟩ : ∃ w1 : World, w1 = wr := ⟨_, rfl⟩
              go_loopg [10, 11] n (fun gk v10 v11 wr => ∃ (k m cO : Nat) (AO : Option Addr) (D : List (List UInt8)), v10 = .slice AO m cO ∧ v11 = .int .i64 k ∧ k + gk = n ∧ m ≤ k ∧ Hid (m = D.length) ∧ Hid (D.all okF = true) ∧ Hid (GrpR L D k) ∧ Hid (Own wr 38 2 AO m cO (fldsC (D.map fldOf))) ∧ Hid (∀ k, blkOf AO = some k → BC ≤ k) ∧ Hid (Chg NoB w1 wr))
              case atStart => exact ⟨0, 0, 0, none, [], rfl, rfl, by omega, Nat.le_refl _, hid rfl, hid rfl, hid (GrpR.zero L), hid (Own.nil _ _ _), hid (fun k h => by cases h), hid (Chg.refl _ _)⟩
              case round =>
                obtain ⟨k, m, cO, AO, D, rfl, rfl, hk, hmk, HMD, HOK, HG, HOO, HBO, HC2⟩ := hrel
                by_cases hlt : k < n
                · have t1 : decide ((k : Int) < (n : Int)) = true := decide_eq_true (by omega)
                  have t2 : decide (k < n) = true := decide_eq_true hlt
                  have i0 : (0 : Int) ≤ (k : Int) := by omega
                  have i1 : (k : Int) < (n : Int) := by omega
                  obtain ⟨g, rfl, _⟩ := HO.out.addr (by omega)
                  have HOL := hid (HO.out.keep HC2.out (fun _ _ => not_false))
                  obtain ⟨l, hl⟩ : ∃ l, L[k]? = some l := ⟨_, List.getElem?_eq_getElem (by rw [← HN.out]; exact hlt)⟩
                  have kc : wr.cell? ⟨g, k, none⟩ = some (.string (str l)) := HOL.out.cell rfl k _ (strsC_get hl)
                  have hll := HLL.out l (List.mem_of_getElem? hl)
                  have hne := HNE.out l (List.mem_of_getElem? hl)
                  have hs0 : 0 < (str l).size := by rw [str_size]; exact List.length_pos_iff.2 hne
                  have j1 : (0 : Int) < ((str l).size : Int) := by omega
                  obtain ⟨x, hx, hxl⟩ := byte_at (str l) 0 hs0
                  rw [str_toList] at hxl
                  have hbx := blankHead_at hxl
                  have HL := hid hl
                  clear hl hne hxl
                  cases hb : isBlank x
                  · have HBH := hid (hbx.trans hb)
                    have HHD := hid (HG.out.head HL.out HBH.out)
                    have HJ0 := hid (HG.out.start HL.out)
                    clear hbx
                    go_upto_block 6 with (first
                      | ((with_reducible (go_at_call 30; refine (ref_blank _ x).mono ?_)); rintro e w2 ⟨rfl, rfl⟩; rw [hb]))
                    go_cut [11, 12] (fun v11 v12 wc => ∃ (k' : Nat) (w' : List UInt8), v11 = .int .i64 k' ∧ v12 = .string (str w') ∧ k < k' ∧ k' ≤ n ∧ Hid (JoinR L D w' k') ∧ Hid (∀ l, L[k']? = some l → blankHead l = false) ∧ wr = wc)
                    case first =>
                      clear t1 t2 i0 i1 kc hx j1 hs0 hb
                      go_wp2
                      go_loop [11, 12] (fun v11 v12 => ∃ (k' : Nat) (w' : List UInt8), v11 = .int .i64 k' ∧ v12 = .string (str w') ∧ k < k' ∧ k' ≤ n ∧ Hid (JoinR L D w' k')) (fun v11 _ => n - (intOf v11).toNat)
                      case atStart => exact ⟨k + 1, l, by go_num, rfl, by omega, by omega, HJ0⟩
                      case round =>
                        obtain ⟨k', w', rfl, rfl, hk1, hk2, HJ⟩ := hrel
                        by_cases hlt2 : k' < n
                        · have t1 : decide ((k' : Int) < (n : Int)) = true := decide_eq_true (by omega)
                          have t2 : decide (k' < n) = true := decide_eq_true hlt2
                          have i0 : (0 : Int) ≤ (k' : Int) := by omega
                          have i1 : (k' : Int) < (n : Int) := by omega
                          obtain ⟨l2, hl⟩ : ∃ l, L[k']? = some l := ⟨_, List.getElem?_eq_getElem (by rw [← HN.out]; exact hlt2)⟩
                          have kc : wr.cell? ⟨g, k', none⟩ = some (.string (str l2)) := HOL.out.cell rfl k' _ (strsC_get hl)
                          have hne := HNE.out l2 (List.mem_of_getElem? hl)
                          have hs0 : 0 < (str l2).size := by rw [str_size]; exact List.length_pos_iff.2 hne
                          have hsl : (str l2).size ≤ 1000000 := by rw [str_size]; exact HLL.out l2 (List.mem_of_getElem? hl)
                          have hsw : (str w').size ≤ 1000000 := by rw [str_size]; exact Nat.le_trans HJ.out.len HSUM.out
                          have j1 : (0 : Int) < ((str l2).size : Int) := by omega
                          obtain ⟨x2, hx, hxl⟩ := byte_at (str l2) 0 hs0
                          rw [str_toList] at hxl
                          have hbx := blankHead_at hxl
                          have HL2 := hid hl
                          clear hl hne hxl
                          cases hb : isBlank x2
                          · have HBH := hid (hbx.trans hb)
                            clear hbx
                            go_wp2_with (first | ((with_reducible (go_at_call 30; refine (ref_blank _ x2).mono ?_)); rintro e w2 ⟨rfl, rfl⟩; rw [hb]))
                            go_meet
                            exact ⟨k', w', rfl, rfl, hk1, hk2, HJ, hid (fun l h => by rw [HL2.out] at h; injection h with h; rw [← h]; exact HBH.out), rfl⟩
                          · have HBH := hid (hbx.trans hb)
                            clear hbx
                            go_wp2_with (first | ((with_reducible (go_at_call 30; refine (ref_blank _ x2).mono ?_)); rintro e w2 ⟨rfl, rfl⟩; rw [hb]))
                            go_round
                            case rel => exact ⟨k' + 1, w' ++ l2, by go_num, congrArg Value.string (str_add _ _), by omega, by omega, hid (HJ.out.next HL2.out HBH.out)⟩
                            case measure => simp [intOf]; omega
                        · have t1 : decide ((k' : Int) < (n : Int)) = false := decide_eq_false (by omega)
                          have t2 : decide (k' < n) = false := decide_eq_false hlt2
                          have HE : Hid (L[k']? = none) := hid (List.getElem?_eq_none (by rw [← HN.out]; omega))
                          go_wp2
                          go_meet
                          exact ⟨k', w', rfl, rfl, hk1, hk2, HJ, hid (fun l h => by rw [HE.out] at h; cases h), rfl⟩
                    case rest =>
                      obtain ⟨k', w', rfl, rfl, hk1, hk2, HJ, HBK, rfl⟩ := hcut
                      clear t1 t2 i0 i1 kc hx j1 hs0 hb
                      have hwl : w'.length ≤ 1000000 := Nat.le_trans HJ.out.len HSUM.out
                      have HMEM := hid (HJ.out.mem HBK.out)
                      have HGN := hid (HJ.out.done (by omega) HHD.out HBK.out)
                      obtain ⟨q, hq⟩ : ∃ q, q = str w' := ⟨_, rfl⟩
                      have hqs : q.size = w'.length := by rw [hq, str_size]
                      have hql : q.size ≤ 1000000 := by omega
                      rw [← hq]
                      have HQ : Hid (q.data.toList = w') := hid (by rw [hq, str_toList])
                      have HQS := hid hqs
                      clear hq hqs hwl
                      go_upto_block 8 with fail
                      go_cut [13] (fun v13 wc => ∃ c : Nat, v13 = .int .i64 c ∧ c ≤ q.size ∧ Hid (NoCol w' c) ∧ Hid (c < q.size → w'[c]? = some 58) ∧ wr = wc)
                      case first =>
                        go_wp2
                        go_loop [13] (fun v13 => ∃ c : Nat, v13 = .int .i64 c ∧ c ≤ q.size ∧ Hid (NoCol w' c)) (fun v13 => q.size - (intOf v13).toNat)
                        case atStart => exact ⟨0, rfl, by omega, hid (NoCol.zero _)⟩
                        case round =>
                          obtain ⟨c, rfl, hc, HNC⟩ := hrel
                          by_cases hlt2 : c < q.size
                          · have t1 : decide ((c : Int) < (q.size : Int)) = true := decide_eq_true (by omega)
                            have t2 : decide (c < q.size) = true := decide_eq_true hlt2
                            have i0 : (0 : Int) ≤ (c : Int) := by omega
                            have i1 : (c : Int) < (q.size : Int) := by omega
                            obtain ⟨x, hx, hxl⟩ := byte_at q c hlt2
                            rw [HQ.out] at hxl
                            have HX := hid hxl
                            clear hxl
                            by_cases h58 : x = 58
                            · have d1 : ((x.toNat : Int) != 58) = false := by rw [h58]; rfl
                              have HE := hid h58
                              clear h58
                              go_wp2
                              go_meet
                              exact ⟨c, rfl, hc, HNC, hid (fun _ => by rw [HX.out, HE.out]), rfl⟩
                            · have d1 : ((x.toNat : Int) != 58) = true := by
                                simp only [bne_iff_ne, ne_eq]; intro e; exact h58 (UInt8.toNat_inj.1 (by show x.toNat = 58; omega))
                              go_wp2
                              go_round
                              case rel => exact ⟨c + 1, by go_num, by omega, hid (HNC.out.succ HX.out h58)⟩
                              case measure => simp [intOf]; omega
                          · have t1 : decide ((c : Int) < (q.size : Int)) = false := decide_eq_false (by omega)
                            have t2 : decide (c < q.size) = false := decide_eq_false hlt2
                            go_wp2
                            go_meet
                            exact ⟨c, rfl, hc, HNC, hid (fun h => absurd h hlt2), rfl⟩
                      case rest =>
                        obtain ⟨c, rfl, hc, HNC, HCC, rfl⟩ := hcut
                        have HNL : Hid ((nameOf w').length = c) := hid (HNC.out.at (by rw [← HQS.out]; exact hc) (by rw [← HQS.out]; exact HCC.out))
                        by_cases hcl : c = q.size
                        · have d1 : ((c : Int) == (q.size : Int)) = true := by rw [beq_iff_eq]; omega
                          have HP := hid (parse_form HSC.out HLG.out (List.all_eq_false.2 ⟨w', HMEM.out, by unfold okF; rw [HNL.out, hcl, HQS.out]; simp⟩))
                          clear hcl
                          go_wp2
                          go_ret3
                          exact ParseOut.bad HP.out rfl (HC.out.trans HC2.out (fun _ _ h => h))
                        · have d1 : ((c : Int) == (q.size : Int)) = false := by rw [beq_eq_false_iff_ne]; omega
                          have hcq : c < q.size := by omega
                          clear hcl
                          go_upto_block 10 with fail
                          go_cut [14] (fun v14 wc => ∃ a : Nat, v14 = .int .i64 a ∧ c + 1 ≤ a ∧ a ≤ q.size ∧ Hid (Blks w' (c + 1) a) ∧ Hid (∀ x, a < w'.length → w'[a]? = some x → isBlank x = false) ∧ wr = wc)
                          case first =>
                            go_wp2
                            go_loop [14] (fun v14 => ∃ a : Nat, v14 = .int .i64 a ∧ c + 1 ≤ a ∧ a ≤ q.size ∧ Hid (Blks w' (c + 1) a)) (fun v14 => q.size - (intOf v14).toNat)
                            case atStart => exact ⟨c + 1, by go_num, by omega, by omega, hid (Blks.self _ _)⟩
                            case round =>
                              obtain ⟨a, rfl, ha1, ha2, HBL⟩ := hrel
                              by_cases hlt2 : a < q.size
                              · have t1 : decide ((a : Int) < (q.size : Int)) = true := decide_eq_true (by omega)
                                have t2 : decide (a < q.size) = true := decide_eq_true hlt2
                                have i0 : (0 : Int) ≤ (a : Int) := by omega
                                have i1 : (a : Int) < (q.size : Int) := by omega
                                obtain ⟨x, hx, hxl⟩ := byte_at q a hlt2
                                rw [HQ.out] at hxl
                                have HX := hid hxl
                                clear hxl
                                cases hb : isBlank x
                                · go_wp2_with (first | ((with_reducible (go_at_call 30; refine (ref_blank _ x).mono ?_)); rintro e w2 ⟨rfl, rfl⟩; rw [hb]))
                                  go_meet
                                  exact ⟨a, rfl, ha1, ha2, HBL, hid (fun y _ h => by rw [HX.out] at h; injection h with h; rw [← h]; exact hb), rfl⟩
                                · go_wp2_with (first | ((with_reducible (go_at_call 30; refine (ref_blank _ x).mono ?_)); rintro e w2 ⟨rfl, rfl⟩; rw [hb]))
                                  go_round
                                  case rel => exact ⟨a + 1, by go_num, by omega, by omega, hid (HBL.out.succ HX.out hb)⟩
                                  case measure => simp [intOf]; omega
                              · have t1 : decide ((a : Int) < (q.size : Int)) = false := decide_eq_false (by omega)
                                have t2 : decide (a < q.size) = false := decide_eq_false hlt2
                                go_wp2
                                go_meet
                                exact ⟨a, rfl, ha1, ha2, HBL, hid (fun y h1 _ => absurd h1 (by rw [← HQS.out]; exact hlt2)), rfl⟩
                          case rest =>
                            obtain ⟨a, rfl, ha1, ha2, HBL, HAE, rfl⟩ := hcut
                            go_upto_block 12 with fail
                            go_cut [15] (fun v15 wc => ∃ b : Nat, v15 = .int .i64 b ∧ a ≤ b ∧ b ≤ q.size ∧ Hid (Blks w' b w'.length) ∧ Hid (a < b → ∀ x, w'[b - 1]? = some x → isBlank x = false) ∧ wr = wc)
                            case first =>
                              go_wp2
                              go_loop [15] (fun v15 => ∃ b : Nat, v15 = .int .i64 b ∧ a ≤ b ∧ b ≤ q.size ∧ Hid (Blks w' b w'.length)) (fun v15 => (intOf v15).toNat)
                              case atStart => exact ⟨q.size, rfl, by omega, by omega, hid (by rw [HQS.out]; exact Blks.self _ _)⟩
                              case round =>
                                obtain ⟨b, rfl, hb1, hb2, HBB⟩ := hrel
                                by_cases hlt2 : a < b
                                · have t1 : decide ((a : Int) < (b : Int)) = true := decide_eq_true (by omega)
                                  have t2 : decide (a < b) = true := decide_eq_true hlt2
                                  have i0 : (0 : Int) ≤ (b : Int) - 1 := by omega
                                  have i1 : (b : Int) - 1 < (q.size : Int) := by omega
                                  obtain ⟨x, hx, hxl⟩ := byte_at q (b - 1) (by omega)
                                  have hx' : q[((b : Int) - 1).toNat]'(by omega) = x := by rw [← hx]; congr 1; omega
                                  rw [HQ.out] at hxl
                                  have HX := hid hxl
                                  clear hxl
                                  cases hb : isBlank x
                                  · go_wp2_with (first | ((with_reducible (go_at_call 30; refine (ref_blank _ x).mono ?_)); rintro e w2 ⟨rfl, rfl⟩; rw [hb]))
                                    go_meet
                                    exact ⟨b, rfl, hb1, hb2, HBB, hid (fun _ y h => by rw [HX.out] at h; injection h with h; rw [← h]; exact hb), rfl⟩
                                  · go_wp2_with (first | ((with_reducible (go_at_call 30; refine (ref_blank _ x).mono ?_)); rintro e w2 ⟨rfl, rfl⟩; rw [hb]))
                                    go_round
                                    case rel => exact ⟨b - 1, by go_num, by omega, by omega, hid (HBB.out.pred (by omega) HX.out hb)⟩
                                    case measure => simp [intOf]; omega
                                · have t1 : decide ((a : Int) < (b : Int)) = false := decide_eq_false (by omega)
                                  have t2 : decide (a < b) = false := decide_eq_false hlt2
                                  go_wp2
                                  go_meet
                                  exact ⟨b, rfl, hb1, hb2, HBB, hid (fun h => absurd h hlt2), rfl⟩
                            case rest =>
                              obtain ⟨b, rfl, hb1, hb2, HBB, HBE, rfl⟩ := hcut
                              have HBY := hid (body_at HNL.out (by rw [← HQS.out]; exact hcq) ha1 hb1 (by rw [← HQS.out]; exact hb2) HBL.out HAE.out HBB.out HBE.out)
                              have HFX : Hid (fldOf w' = ⟨q.extract 0 c, q.extract a b⟩) := hid (by
                                unfold fldOf
                                rw [HBY.out, extract_str, extract_str, HQ.out, ← (nameOf_at w').2.2.1, HNL.out]; rfl)
                              have hfn : (fldOf w').name.size ≤ 1000000 := by rw [HFX.out]; show (q.extract 0 c).size ≤ _; rw [ByteArray.size_extract]; omega
                              have hfb : (fldOf w').body.size ≤ 1000000 := by rw [HFX.out]; show (q.extract a b).size ≤ _; rw [ByteArray.size_extract]; omega
                              have HRT : Hid (∀ W, Calls Tryd.prog 18 #[.agg #[.string (q.extract 0 c), .string (q.extract a b)]] W fun e w' => e = .returned (.bool (right (⟨q.extract 0 c, q.extract a b⟩ : Fld))) ∧ Chg NoB W w') := hid (fun W => by
                                have := ref_right W (fldOf w') hfn hfb
                                rw [HFX.out] at this; exact this)
                              have HOKL : Hid (okF w' = right (⟨q.extract 0 c, q.extract a b⟩ : Fld)) := hid (by unfold okF; rw [HNL.out, ← HQS.out, decide_eq_true hcq, Bool.true_and, HFX.out])
                              have c0 : (0 : Int) ≤ (c : Int) := by omega
                              have c1 : (c : Int) ≤ (q.size : Int) := by omega
                              have a0 : (0 : Int) ≤ (a : Int) := by omega
                              have a1 : (a : Int) ≤ (b : Int) := by omega
                              have b1 : (b : Int) ≤ (q.size : Int) := by omega
                              clear hfn hfb
                              go_wp2_with fail
                              go_region
                              cases hr : right (⟨q.extract 0 c, q.extract a b⟩ : Fld)
                              · have HP := hid (parse_form HSC.out HLG.out (List.all_eq_false.2 ⟨w', HMEM.out, by rw [HOKL.out, hr]; simp⟩))
                                go_wp2_with (first
                                  | ((with_reducible (go_at_call 18; refine (HRT.out _).mono ?_)); rintro e w4 ⟨rfl, hc4⟩; rw [hr]; have HC5 := hid (((HC2.out.alloc _).drew).trans hc4 (fun _ _ h => h)); clear hc4))
                                go_ret3
                                exact ParseOut.bad HP.out rfl (HC.out.trans HC5.out (fun _ _ h => h))
                              · have m1 : m + 1 ≤ maxLen := by unfold maxLen; omega
                                have m2 : (m + 1) * 32 ≤ 140737488355328 := by omega
                                go_wp2_with (first
                                  | ((with_reducible (go_at_call 18; refine (HRT.out _).mono ?_)); rintro e w4 ⟨rfl, hc4⟩; rw [hr]; have HC5 := hid (((HC2.out.alloc _).drew).trans hc4 (fun _ _ h => h)); have HOO5 := hid (((HOO.out.alloc _).drew).keep hc4 (fun _ _ => not_false)); have hbk := ((Blk.new wr #[.string (q.extract 0 c), .string (q.extract a b)] 38).drew).keep hc4 not_false; have q0 := hbk.cell 0; have q1 := hbk.cell 1; simp only [List.getElem?_toArray, List.getElem?_cons_succ, List.getElem?_cons_zero] at q0 q1; clear hc4 hbk)
                                  | ((with_reducible refine wpList_append_all rfl (.tmp 153) (.tmp 155) 22 22 rfl 38 (.agg #[.string ⟨#[]⟩, .string ⟨#[]⟩]) 2 32 rfl info_fld rfl AO m cO rfl _ (HOO5.out.alloc _) (.slice (some ⟨w4.heap.size, 0, none⟩) 1 1) rfl 1 [.string (q.extract 0 c), .string (q.extract a b)] ((Blk.new _ _ _).srcOf (e' := 38) rfl rfl (by simp [Value.oneCell'])) m1 m2 ?_); intro A' c' w5 ho5 hc5 hb5; have HO5 := hid ho5; have HC6 := hid hc5; have HB6 := hid hb5; clear ho5 hc5 hb5))
                                go_roundg (n - k')
                                case measure => omega
                                case rel =>
                                  refine ⟨k', m + 1, c', A', D ++ [w'], rfl, rfl, by omega, by omega, hid (by rw [List.length_append, ← HMD.out]; rfl), hid (by rw [List.all_append, HOK.out]; simp [HOKL.out, hr]), HGN, hid ?_, hid ?_, hid ?_⟩
                                  · have := HO5.out
                                    rw [List.map_append, fldsC_append]
                                    simp only [List.map_cons, List.map_nil]
                                    rw [HFX.out]
                                    exact this
                                  · intro k hk
                                    have h1 := (HC5.out.alloc (.cells #[.string (q.extract 0 c), .string (q.extract a b)] 38)).size
                                    have := HBC.out.1
                                    rcases HB6.out with e | e
                                    · exact HBO.out k (by rw [← e]; exact hk)
                                    · rw [e] at hk; injection hk with hk; omega
                                  · exact ((HC5.out.alloc _).trans HC6.out (fun k hk e => by have := HBO.out k e; have := HBC.out.1; omega))
                  · have HP := hid (parse_first HSC.out HLG.out (HG.out.blank HL.out (hbx.trans hb)))
                    clear hbx
                    go_wp2_with (first
                      | ((with_reducible (go_at_call 30; refine (ref_blank _ x).mono ?_)); rintro e w2 ⟨rfl, rfl⟩; rw [hb]))
                    go_ret3
                    exact ParseOut.bad HP.out rfl (HC.out.trans HC2.out (fun _ _ h => h))
                · have t1 : decide ((k : Int) < (n : Int)) = false := decide_eq_false (by omega)
                  have t2 : decide (k < n) = false := decide_eq_false hlt
                  have hkn : k = n := by omega
                  have HGD := hid (HG.out.done (by rw [← HN.out]; omega))
                  have HOA : Hid ((groups L).all okF = true) := hid (by rw [HGD.out.1]; exact HOK.out)
                  clear hkn
                  by_cases h64 : 64 < m
                  · have t4 : decide (64 < (m : Int)) = true := decide_eq_true (by omega)
                    have HP := hid (parse_many HSC.out HLG.out HGD.out.2 HOA.out (by rw [HGD.out.1, ← HMD.out]; exact h64))
                    go_wp2
                    go_ret3
                    exact ParseOut.bad HP.out rfl (HC.out.trans HC2.out (fun _ _ h => h))
                  · have t4 : decide (64 < (m : Int)) = false := decide_eq_false (by omega)
                    have HP := hid (parse_ok HSC.out HLG.out HGD.out.2 HOA.out (by rw [HGD.out.1, ← HMD.out]; exact h64))
                    have f1 : (f : Int) ≤ (s.size : Int) := by omega
                    have HEX : Hid (s.extract f s.size = str (s.data.toList.drop f)) := hid (by rw [extract_str, List.take_of_length_le (by rw [List.length_drop, len_data]; exact Nat.le_refl _)])
                    go_wp2_with fail
                    go_quiet (fail)
                    go_wp2
                    go_ret3
                    obtain ⟨p1, p2, p3⟩ := HP.out
                    refine ⟨AO, cO, ?_, ?_, (HC.out.trans HC2.out (fun _ _ h => h)).drewN _⟩
                    · rw [p1, p2, p3, List.length_map, HGD.out.1, ← HMD.out, ← HEX.out]; rfl
                    · rw [p2, List.length_map, HGD.out.1, ← HMD.out]
                      exact HOO.out
end Go.Proofs.YtkphllolghlmeaaDoor
