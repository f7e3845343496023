/- The walk of SyncobjNoDeadlock. No condition. -/
import Derived.Test.YtefgfmnnaglfmaaQ4
namespace Go.Proofs.Ytefgfmnnaglfmaa
open Go.RowKit
theorem co_cells {X : World} {b o : Nat} {c : OpR} (h : X.rangeAt b o (co c)) : X.cell? ⟨b, o, none⟩ = some (.int .i64 c.k) ∧ X.cell? ⟨b, o + 1, none⟩ = some (.int .i64 c.t) ∧ X.cell? ⟨b, o + 2, none⟩ = some (.int .i64 c.id) :=
  ⟨h 0 _ rfl, h 1 _ rfl, h 2 _ rfl⟩
theorem rangeAt_below {X X' : World} {b o N : Nat} {cs : List Value} (h : X.rangeAt b o cs) (hb : Below N X X') (hN : b < N) : X'.rangeAt b o cs := fun j u hu => (hb.cell (p := ⟨b, o + j, none⟩) hN).trans (h j u hu)
def nx (idw ow : Int) (j : Nat) : Int := if idw < (j : Int) then ow else -1
set_option maxRecDepth 100000 in
set_option maxHeartbeats 4000000 in
theorem dead_walk (a : Option Addr) (len cap : Nat) (l : List OpR) (w : World) (h : OpS w a len cap l) :
    Calls Try.prog 4 #[.slice a len cap] w fun e w' => e = .returned (.bool true) ∧ Below w.heap.size w w' := by
  have HI := Lib.hid h
  have hlen : len ≤ 9223372036854775807 := by have h1 := h.2.1; have h2 := h.2.2.1; unfold maxLen at h2; omega
  have hlc : len ≤ cap := h.2.1
  clear h
  go_enter Try.func4, Try.ntmps4
  go_wp2_with fail
  obtain ⟨F, hF⟩ : ∃ F : Nat → Prop, F = fun k => k < w.heap.size := ⟨_, rfl⟩
  refine (new_any F w (fun k hk => by rw [hF] at hk; exact hk)).mono ?_
  rintro e w1 ⟨rfl, ⟨y1, h1⟩, hb1⟩
  have hN : ∀ k, k < w.heap.size → F k := fun k hk => by rw [hF]; exact hk
  have HN := Lib.hid hN
  have N1 : Hid (∃ s, ini 0 s ∧ NSt w w1 (w.heap.size + 2) 0 s) := ⟨s0, ini0, F, y1, h1, hN, Keep.below hb1 hN (Nat.le_refl _)⟩
  clear h1 hb1 hN hF HN
  obtain ⟨L, hL⟩ : ∃ L, w.heap.size + 2 = L := ⟨_, rfl⟩
  rw [hL] at N1 ⊢
  clear hL
  go_wp2_with fail
  refine (awake_any w1).mono ?_
  rintro e w2 ⟨rfl, hb2⟩
  have N2 : Hid (∃ s, ini 0 s ∧ NSt w w2 L 0 s) := by
    obtain ⟨s, h1, h2⟩ := N1.out
    exact ⟨s, h1, h2.keep hb2⟩
  clear N1 hb2
  go_wp2_with fail
  go_loopw [4] (fun z wr => ∃ j : Nat, j ≤ 6 ∧ z = .int .i64 j ∧ Hid (∃ s, ini j s ∧ NSt w wr L j s)) (fun z _ => 6 - (intOf z).toNat)
  case atStart => exact ⟨0, by omega, rfl, N2⟩
  case round =>
    clear N2
    obtain ⟨j, hj, rfl, NJ⟩ := hrel
    by_cases hj6 : j < 6
    · have z0 : (j : Int) < 6 := by omega
      obtain ⟨s, hs1, hs2⟩ := NJ.out
      have HC : Hid (Calls Try.prog 12 #[ptr L, .int .i64 (j : Int), .int .i64 (2 * (j : Int) + 1)] wr fun e w' => e = .returned (.int .i64 0) ∧ ∃ s, ini (j + 1) s ∧ NSt w w' L (j + 1) s) := by
        obtain ⟨F, y, h1, h2, h3⟩ := hs2
        have := addMutex_any (id := (j : Int)) (lv := 2 * (j : Int) + 1) h1 (in_small (by omega)) (by omega)
        rw [(ini_succ hs1 hj6).1] at this
        refine this.mono ?_
        rintro e w' ⟨he, ⟨y', h7⟩, h8⟩
        exact ⟨he, _, (ini_succ hs1 hj6).2, F, y', h7, h2, h3.trans (Keep.below h8 h2 h3.size)⟩
      clear hs1 hs2 NJ
      go_wp2_with fail
      refine HC.out.mono ?_
      rintro e w3 ⟨rfl, hE⟩
      have E1 := Lib.hid hE
      clear hE HC
      go_wp2_with fail
      exact ⟨⟨j + 1, by omega, by go_num, E1⟩, by simp [intOf]; omega⟩
    · have z0 : ¬ (j : Int) < 6 := by omega
      have N6 : Hid (∃ s, ND s ∧ NSt w wr L 6 s) := by
        obtain ⟨s, h1, h2⟩ := NJ.out
        rw [show j = 6 by omega] at h1 h2
        exact ⟨s, ini_nd h1, h2⟩
      clear NJ
      go_wp2_with fail
      obtain ⟨wo, rfl⟩ : ∃ wo : World, wo = wr := ⟨_, rfl⟩
      go_loopw [5] (fun z wr => ∃ i : Nat, i ≤ len ∧ i ≤ 80 ∧ z = .int .i64 i ∧ Hid (∃ s, ND s ∧ NSt w wr L (6 + i) s)) (fun z _ => len - (intOf z).toNat)
      case atStart => exact ⟨0, by omega, by omega, rfl, N6⟩
      case round =>
        clear N6
        obtain ⟨i, hil, hi80, rfl, NI⟩ := hrel
        by_cases hcont : i < len ∧ i < 80
        · have y0 : (i : Int) < len := by omega
          have y1 : (i : Int) < 80 := by omega
          obtain ⟨s, hnd, hst⟩ := NI.out
          have HB0 := Lib.hid hst
          have HND := Lib.hid hnd
          obtain ⟨b, o, c, rfl, hbw, hx, hmem, hwf, hrg⟩ := HI.out.at hcont.1
          have hbel : Below w.heap.size w wr := by obtain ⟨_, _, _, _, h3⟩ := hst; exact h3
          have S0 := Lib.hid (co_cells (rangeAt_below hrg hbel.drew hbw))
          have NS : Hid (NSt w wr.drew L (6 + i) s) := hst.keep ((Below.refl _ _).drew)
          clear hrg hx hmem hwf hst hnd NI hbel HB0
          go_wp2_with fail
          refine wp_region_pl (fun X => X.cell? ⟨b, o + i * 6, none⟩ = some (.int .i64 c.k) ∧ X.cell? ⟨b, o + i * 6 + 1, none⟩ = some (.int .i64 c.t) ∧ X.cell? ⟨b, o + i * 6 + 2, none⟩ = some (.int .i64 c.id))
            ((0, 0) :: (1, 0) :: (2, 0) :: (3, 0) :: (4, 0) :: (5, 0) :: (6, 0) :: (7, 0) :: (8, 0) :: (9, 0) :: (10, 0) :: (11, 0) :: (12, 0) :: (13, 0) :: []) (by kernel_rfl) (by kernel_rfl) ?_
          iterate 5 (apply wpP_go; (focus rfl); (focus rfl); (focus exact S0.out); (focus (rintro X ⟨s0, s1, s2⟩; go_simp; exact rfl)); intro K hK; go_simp; refine hK _ ?_; clear hK K)
          apply wpP_call
          focus rfl
          focus rfl
          focus exact S0.out
          focus
            rintro X ⟨s0, s1, s2⟩
            go_simp
            exact ⟨rfl, rfl⟩
          focus
            intro X _
            exact mod_any c.t 5 X (by omega) (by omega)
          intro K hK
          go_simp
          refine hK _ ?_
          clear hK K
          iterate 5 (apply wpP_go; (focus rfl); (focus rfl); (focus exact S0.out); (focus (rintro X ⟨s0, s1, s2⟩; go_simp; exact rfl)); intro K hK; go_simp; refine hK _ ?_; clear hK K)
          apply wpP_call
          focus rfl
          focus rfl
          focus exact S0.out
          focus
            rintro X ⟨s0, s1, s2⟩
            go_simp
            exact ⟨rfl, rfl⟩
          focus
            intro X _
            exact mod_any c.id 6 X (by omega) (by omega)
          intro K hK
          go_simp
          refine hK _ ?_
          clear hK K
          iterate 2 (apply wpP_go; (focus rfl); (focus rfl); (focus exact S0.out); (focus (rintro X ⟨s0, s1, s2⟩; go_simp; exact rfl)); intro K hK; go_simp; refine hK _ ?_; clear hK K)
          refine wpP_done ?_
          have ht5 := mo_lt c.t 5 (by omega)
          have hi6 := mo_lt c.id 6 (by omega)
          obtain ⟨t, het⟩ : ∃ t : Int, ((mo c.t 5 : Nat) : Int) = t := ⟨_, rfl⟩
          obtain ⟨id, hei⟩ : ∃ id : Int, ((mo c.id 6 : Nat) : Int) = id := ⟨_, rfl⟩
          have ht : 0 ≤ t ∧ t < 5 := by omega
          have hid : rg id := ⟨by omega, by omega⟩
          rw [het, hei]
          have c0 := S0.out.1
          clear het hei ht5 hi6 S0
          generalize wr.drew = V at NS c0 ⊢
          go_wp2_with fail
          refine (mod_any c.k 3 _ (by omega) (by omega)).mono ?_
          rintro e w4 ⟨rfl, rfl⟩
          clear c0
          by_cases hk0 : mo c.k 3 = 0
          · have HC := Lib.hid (NS.out.rel HND.out (by omega) hid ht)
            have d0 : ((mo c.k 3 : Nat) : Int) = 0 := by omega
            rw [d0]
            clear d0 NS
            go_wp2_with fail
            refine HC.out.mono ?_
            rintro e w5 ⟨ra, rfl, hE⟩
            have NI2 := Lib.hid hE
            clear hE HC
            obtain ⟨s5, hnd5, hst5⟩ := NI2.out
            have HND5 := Lib.hid hnd5
            have NS5 : Hid (NSt w w5 L (6 + (i + 1)) s5) := hst5
            clear NI2 hnd5 hst5
            go_wp2_with fail
            obtain ⟨wo5, rfl⟩ : ∃ wo : World, wo = w5 := ⟨_, rfl⟩
            go_loopw [8] (fun z wr => ∃ t8 : Nat, t8 ≤ 5 ∧ z = .int .i64 t8 ∧ Hid (NSt w wr L (6 + (i + 1)) s5)) (fun z _ => 5 - (intOf z).toNat)
            case atStart => exact ⟨0, by omega, rfl, NS5⟩
            case round =>
              clear NS5
              obtain ⟨t8, ht8, rfl, N8⟩ := hrel
              by_cases h8 : t8 < 5
              · have y8 : (t8 : Int) < 5 := by omega
                go_wp2_with fail
                obtain ⟨wo8, rfl⟩ : ∃ wo : World, wo = wr := ⟨_, rfl⟩
                go_loopw [9, 10] (fun x z wr => ∃ (at9 : Int) (sp : Nat), 0 ≤ at9 ∧ at9 < 5 ∧ sp ≤ 6 ∧ x = .int .i64 at9 ∧ z = .int .i64 sp ∧ Hid (∀ q, rg q → at9 ∈ (s5.X q).q → (sp : Int) ≤ q) ∧ Hid (NSt w wr L (6 + (i + 1)) s5)) (fun _ z _ => 7 - (intOf z).toNat)
                case atStart => exact ⟨(t8 : Int), 0, by omega, by omega, by omega, rfl, rfl, (fun q hq _ => hq.1), N8⟩
                case round =>
                  clear N8
                  obtain ⟨at9, sp, ha0, ha5, hsp, rfl, rfl, HSP, N9⟩ := hrel
                  have HST := Lib.hid (N9.out.stat (i := at9) ⟨ha0, ha5⟩)
                  by_cases hW : (stT s5 at9).st = 2
                  · rw [hW] at HST
                    obtain ⟨idw, hidw, hmw⟩ := (HND5.out.1.st at9).1 hW
                    have hspw : (sp : Int) ≤ idw := HSP.out idw hidw hmw
                    have hct : 0 < (s5.X idw).ct := by
                      have h1 := (HND5.out.1.lvl idw hidw).2.2.1
                      have h2 : (s5.X idw).ct ≠ 0 := fun h0 => by rw [HND5.out.1.q0 idw hidw h0] at hmw; cases hmw
                      omega
                    have how := HND5.out.1.ow idw hidw hct
                    have HNX : Hid (∀ q, rg q → (s5.X idw).ow ∈ (s5.X q).q → ((sp + 1 : Nat) : Int) ≤ q) := fun q hq hm => by
                      have := HND5.out.1.lv (s5.X idw).ow q hq hm idw ((HND5.out.1.hd _ idw).2 ⟨hidw, hct, rfl⟩)
                      omega
                    have HIN : Hid (∀ q, rg q → (at9 ∈ (s5.X q).q ↔ q = idw)) := fun q hq => ⟨fun hm => HND5.out.1.un at9 q idw hq hidw hm hmw, fun e => by rw [e]; exact hmw⟩
                    have hw6 : idw < 6 := hidw.2
                    have hw0 : 0 ≤ idw := hidw.1
                    obtain ⟨ow, heow⟩ : ∃ ow, (s5.X idw).ow = ow := ⟨_, rfl⟩
                    have HEW := Lib.hid heow
                    rw [heow] at how HNX
                    clear hW hmw hct heow hidw
                    go_wp2_with fail
                    refine HST.out.mono ?_
                    rintro e w9 ⟨rfl, rfl⟩
                    clear HST
                    go_wp2_with fail
                    obtain ⟨wo9, rfl⟩ : ∃ wo : World, wo = wr := ⟨_, rfl⟩
                    go_loopw [11, 12] (fun x z wr => ∃ j9 : Nat, j9 ≤ 6 ∧ x = .int .i64 (nx idw ow j9) ∧ z = .int .i64 j9 ∧ Hid (NSt w wr L (6 + (i + 1)) s5)) (fun _ z _ => 6 - (intOf z).toNat)
                    case atStart => exact ⟨0, by omega, by unfold nx; rw [if_neg (by omega)], rfl, N9⟩
                    case round =>
                      clear N9
                      obtain ⟨j9, hj9, rfl, rfl, N10⟩ := hrel
                      by_cases hj10 : j9 < 6
                      · have y9 : (j9 : Int) < 6 := by omega
                        have hrj : rg (j9 : Int) := ⟨by omega, by omega⟩
                        have HWT := Lib.hid (N10.out.wt HND5.out hrj)
                        have HJN : Hid (nx idw ow (j9 + 1) = if at9 ∈ (s5.X j9).q then (s5.X j9).ow else nx idw ow j9) := by
                          show nx idw ow (j9 + 1) = _
                          by_cases e : (j9 : Int) = idw
                          · rw [if_pos ((HIN.out _ hrj).2 e)]
                            unfold nx
                            rw [if_pos (by omega), e, HEW.out]
                          · rw [if_neg (fun hh => e ((HIN.out _ hrj).1 hh))]
                            unfold nx
                            by_cases e2 : idw < (j9 : Int)
                            · rw [if_pos e2, if_pos (by omega)]
                            · rw [if_neg e2, if_neg (by omega)]
                        obtain ⟨ql, hql⟩ : ∃ ql, (s5.X j9).q = ql := ⟨_, rfl⟩
                        obtain ⟨oj, hoj⟩ : ∃ oj, (s5.X j9).ow = oj := ⟨_, rfl⟩
                        have HOWJ : Hid (∀ V, NSt w V L (6 + (i + 1)) s5 → ql ≠ [] → Calls Try.prog 15 #[ptr L, .int .i64 (j9 : Int)] V fun e w' => e = .returned (.tuple #[.int .i64 oj, .bool true]) ∧ V = w') := fun V hV hq => by
                          rw [← hoj]; exact hV.ow HND5.out hrj (by rw [hql]; exact hq)
                        have hqs : ql.length ≤ 1000 := by rw [← hql]; exact HND5.out.small.1 _ hrj
                        rw [hql, hoj] at HJN
                        rw [hql] at HWT
                        clear hql hoj N10
                        obtain ⟨nj, hnj⟩ : ∃ nj, nx idw ow j9 = nj := ⟨_, rfl⟩
                        rw [hnj] at HJN ⊢
                        clear hnj
                        go_wp2_with fail
                        refine HWT.out.mono ?_
                        rintro e w10 ⟨v, rfl, hq10, hN10⟩
                        have N10 := Lib.hid hN10
                        have HQ10 := Lib.hid hq10
                        clear hN10 HWT
                        rcases hq10.cases with ⟨ev, eq⟩ | ⟨g, cp, ev⟩
                        · subst ev
                          subst eq
                          have e0 : nx idw ow (j9 + 1) = nj := by rw [HJN.out]; simp
                          have HE0 := Lib.hid e0
                          clear e0 hq10
                          go_wp2_with fail
                          go_loop [11, 14] (fun x z => x = .int .i64 nj ∧ z = .int .i64 0) (fun _ _ => 0)
                          case atStart => exact ⟨rfl, rfl⟩
                          case round =>
                            obtain ⟨rfl, rfl⟩ := hrel
                            go_wp2_with fail
                            exact ⟨⟨j9 + 1, by omega, by rw [HE0.out], by go_num, N10⟩, by simp [intOf]; omega⟩
                        · subst ev
                          obtain ⟨_, _, _, q3, _⟩ := hq10.cell
                          have HCl : Hid (∀ m, m < ql.length → w10.cell? ⟨g, m, none⟩ = some (.int .i64 (ql.getD m 0))) := fun m hm => by have := q3 m hm; rwa [Nat.zero_add] at this
                          clear hq10 q3 HQ10
                          go_wp2_with fail
                          go_loop [11, 14] (fun x z => ∃ m : Nat, m ≤ ql.length ∧ z = .int .i64 m ∧ x = .int .i64 (if (ql.take m).any (· == at9) = true then oj else nj)) (fun _ z => ql.length - (intOf z).toNat)
                          case atStart => exact ⟨0, by omega, rfl, by simp⟩
                          case round =>
                            obtain ⟨m, hm, rfl, rfl⟩ := hrel
                            by_cases hml : m < ql.length
                            · have ym : (m : Int) < ql.length := by omega
                              have cm := HCl.out m hml
                              have hqne : ql ≠ [] := by rintro rfl; simp at hml
                              have HOM := Lib.hid (HOWJ.out w10 N10.out hqne)
                              have HSU := Lib.hid (any_succ (p := (· == at9)) hml)
                              obtain ⟨cur, hcur⟩ : ∃ cur, (if (ql.take m).any (· == at9) = true then oj else nj) = cur := ⟨_, rfl⟩
                              have HCUR := Lib.hid hcur
                              rw [hcur]
                              clear hcur hqne
                              by_cases he : ql.getD m 0 = at9
                              · have d1 : (ql.getD m 0 == at9) = true := by simpa using he
                                have hn : Hid (oj = if (ql.take (m + 1)).any (· == at9) = true then oj else nj) := by
                                  show oj = _
                                  rw [HSU.out, d1]; simp
                                generalize ql.getD m 0 = qm at *
                                go_wp2_with fail
                                refine HOM.out.mono ?_
                                rintro e w11 ⟨rfl, rfl⟩
                                go_wp2_with fail
                                go_round
                                case rel => exact ⟨m + 1, by omega, by go_num, by rw [← hn.out]⟩
                                case measure => simp [intOf]; omega
                              · have d1 : (ql.getD m 0 == at9) = false := by simpa using he
                                have hn : Hid (cur = if (ql.take (m + 1)).any (· == at9) = true then oj else nj) := by
                                  show cur = _
                                  rw [HSU.out, d1, Bool.or_false, HCUR.out]
                                generalize ql.getD m 0 = qm at *
                                go_wp2_with fail
                                refine HOM.out.mono ?_
                                rintro e w11 ⟨rfl, rfl⟩
                                go_wp2_with fail
                                go_round
                                case rel => exact ⟨m + 1, by omega, by go_num, by rw [← hn.out]⟩
                                case measure => simp [intOf]; omega
                            · have ym : ¬ (m : Int) < ql.length := by omega
                              have e0 : (if (ql.take m).any (· == at9) = true then oj else nj) = nx idw ow (j9 + 1) := by
                                rw [HJN.out, List.take_of_length_le (by omega)]
                                by_cases e : at9 ∈ ql
                                · rw [if_pos e, if_pos (by simpa using e)]
                                · rw [if_neg e, if_neg (by simpa using e)]
                              rw [e0]
                              clear e0
                              go_wp2_with fail
                              exact ⟨⟨j9 + 1, by omega, rfl, by go_num, N10⟩, by simp [intOf]; omega⟩
                      · have y9 : ¬ (j9 : Int) < 6 := by omega
                        have e0 : nx idw ow j9 = ow := by unfold nx; rw [if_pos (by omega)]
                        rw [e0]
                        have z1 : decide (ow < 0) = false := by simp; omega
                        have z2 : decide ((sp : Int) > 5) = false := by simp; omega
                        clear e0
                        go_wp2_with fail
                        exact ⟨⟨ow, sp + 1, how.1, how.2, by omega, rfl, by go_num, HNX, N10⟩, by simp [intOf]; omega⟩
                  · have d2 : ((stT s5 at9).st == 2) = false := by simpa using hW
                    generalize (stT s5 at9).st = st9 at *
                    go_wp2_with fail
                    refine HST.out.mono ?_
                    rintro e w9 ⟨rfl, rfl⟩
                    clear HST
                    go_wp2_with fail
                    exact ⟨⟨t8 + 1, by omega, by go_num, N9⟩, by simp [intOf]; omega⟩
              · have y8 : ¬ (t8 : Int) < 5 := by omega
                have N11 : Hid (∃ s, ND s ∧ NSt w wr L (6 + (i + 1)) s) := ⟨s5, HND5.out, N8.out⟩
                clear N8
                go_wp2_with fail
                exact ⟨⟨i + 1, by omega, by omega, by go_num, N11⟩, by simp [intOf]; omega⟩
          · have HC := Lib.hid (NS.out.acq HND.out (by omega) hid ht)
            have d0 : (((mo c.k 3 : Nat) : Int) == 0) = false := by rw [beq_eq_false_iff_ne]; omega
            generalize ((mo c.k 3 : Nat) : Int) = mk at *
            clear NS
            go_wp2_with fail
            refine HC.out.mono ?_
            rintro e w5 ⟨ra, rb, rfl, hE⟩
            have NI2 := Lib.hid hE
            clear hE HC
            obtain ⟨s5, hnd5, hst5⟩ := NI2.out
            have HND5 := Lib.hid hnd5
            have NS5 : Hid (NSt w w5 L (6 + (i + 1)) s5) := hst5
            clear NI2 hnd5 hst5
            go_wp2_with fail
            obtain ⟨wo5, rfl⟩ : ∃ wo : World, wo = w5 := ⟨_, rfl⟩
            go_loopw [8] (fun z wr => ∃ t8 : Nat, t8 ≤ 5 ∧ z = .int .i64 t8 ∧ Hid (NSt w wr L (6 + (i + 1)) s5)) (fun z _ => 5 - (intOf z).toNat)
            case atStart => exact ⟨0, by omega, rfl, NS5⟩
            case round =>
              clear NS5
              obtain ⟨t8, ht8, rfl, N8⟩ := hrel
              by_cases h8 : t8 < 5
              · have y8 : (t8 : Int) < 5 := by omega
                go_wp2_with fail
                obtain ⟨wo8, rfl⟩ : ∃ wo : World, wo = wr := ⟨_, rfl⟩
                go_loopw [9, 10] (fun x z wr => ∃ (at9 : Int) (sp : Nat), 0 ≤ at9 ∧ at9 < 5 ∧ sp ≤ 6 ∧ x = .int .i64 at9 ∧ z = .int .i64 sp ∧ Hid (∀ q, rg q → at9 ∈ (s5.X q).q → (sp : Int) ≤ q) ∧ Hid (NSt w wr L (6 + (i + 1)) s5)) (fun _ z _ => 7 - (intOf z).toNat)
                case atStart => exact ⟨(t8 : Int), 0, by omega, by omega, by omega, rfl, rfl, (fun q hq _ => hq.1), N8⟩
                case round =>
                  clear N8
                  obtain ⟨at9, sp, ha0, ha5, hsp, rfl, rfl, HSP, N9⟩ := hrel
                  have HST := Lib.hid (N9.out.stat (i := at9) ⟨ha0, ha5⟩)
                  by_cases hW : (stT s5 at9).st = 2
                  · rw [hW] at HST
                    obtain ⟨idw, hidw, hmw⟩ := (HND5.out.1.st at9).1 hW
                    have hspw : (sp : Int) ≤ idw := HSP.out idw hidw hmw
                    have hct : 0 < (s5.X idw).ct := by
                      have h1 := (HND5.out.1.lvl idw hidw).2.2.1
                      have h2 : (s5.X idw).ct ≠ 0 := fun h0 => by rw [HND5.out.1.q0 idw hidw h0] at hmw; cases hmw
                      omega
                    have how := HND5.out.1.ow idw hidw hct
                    have HNX : Hid (∀ q, rg q → (s5.X idw).ow ∈ (s5.X q).q → ((sp + 1 : Nat) : Int) ≤ q) := fun q hq hm => by
                      have := HND5.out.1.lv (s5.X idw).ow q hq hm idw ((HND5.out.1.hd _ idw).2 ⟨hidw, hct, rfl⟩)
                      omega
                    have HIN : Hid (∀ q, rg q → (at9 ∈ (s5.X q).q ↔ q = idw)) := fun q hq => ⟨fun hm => HND5.out.1.un at9 q idw hq hidw hm hmw, fun e => by rw [e]; exact hmw⟩
                    have hw6 : idw < 6 := hidw.2
                    have hw0 : 0 ≤ idw := hidw.1
                    obtain ⟨ow, heow⟩ : ∃ ow, (s5.X idw).ow = ow := ⟨_, rfl⟩
                    have HEW := Lib.hid heow
                    rw [heow] at how HNX
                    clear hW hmw hct heow hidw
                    go_wp2_with fail
                    refine HST.out.mono ?_
                    rintro e w9 ⟨rfl, rfl⟩
                    clear HST
                    go_wp2_with fail
                    obtain ⟨wo9, rfl⟩ : ∃ wo : World, wo = wr := ⟨_, rfl⟩
                    go_loopw [11, 12] (fun x z wr => ∃ j9 : Nat, j9 ≤ 6 ∧ x = .int .i64 (nx idw ow j9) ∧ z = .int .i64 j9 ∧ Hid (NSt w wr L (6 + (i + 1)) s5)) (fun _ z _ => 6 - (intOf z).toNat)
                    case atStart => exact ⟨0, by omega, by unfold nx; rw [if_neg (by omega)], rfl, N9⟩
                    case round =>
                      clear N9
                      obtain ⟨j9, hj9, rfl, rfl, N10⟩ := hrel
                      by_cases hj10 : j9 < 6
                      · have y9 : (j9 : Int) < 6 := by omega
                        have hrj : rg (j9 : Int) := ⟨by omega, by omega⟩
                        have HWT := Lib.hid (N10.out.wt HND5.out hrj)
                        have HJN : Hid (nx idw ow (j9 + 1) = if at9 ∈ (s5.X j9).q then (s5.X j9).ow else nx idw ow j9) := by
                          show nx idw ow (j9 + 1) = _
                          by_cases e : (j9 : Int) = idw
                          · rw [if_pos ((HIN.out _ hrj).2 e)]
                            unfold nx
                            rw [if_pos (by omega), e, HEW.out]
                          · rw [if_neg (fun hh => e ((HIN.out _ hrj).1 hh))]
                            unfold nx
                            by_cases e2 : idw < (j9 : Int)
                            · rw [if_pos e2, if_pos (by omega)]
                            · rw [if_neg e2, if_neg (by omega)]
                        obtain ⟨ql, hql⟩ : ∃ ql, (s5.X j9).q = ql := ⟨_, rfl⟩
                        obtain ⟨oj, hoj⟩ : ∃ oj, (s5.X j9).ow = oj := ⟨_, rfl⟩
                        have HOWJ : Hid (∀ V, NSt w V L (6 + (i + 1)) s5 → ql ≠ [] → Calls Try.prog 15 #[ptr L, .int .i64 (j9 : Int)] V fun e w' => e = .returned (.tuple #[.int .i64 oj, .bool true]) ∧ V = w') := fun V hV hq => by
                          rw [← hoj]; exact hV.ow HND5.out hrj (by rw [hql]; exact hq)
                        have hqs : ql.length ≤ 1000 := by rw [← hql]; exact HND5.out.small.1 _ hrj
                        rw [hql, hoj] at HJN
                        rw [hql] at HWT
                        clear hql hoj N10
                        obtain ⟨nj, hnj⟩ : ∃ nj, nx idw ow j9 = nj := ⟨_, rfl⟩
                        rw [hnj] at HJN ⊢
                        clear hnj
                        go_wp2_with fail
                        refine HWT.out.mono ?_
                        rintro e w10 ⟨v, rfl, hq10, hN10⟩
                        have N10 := Lib.hid hN10
                        have HQ10 := Lib.hid hq10
                        clear hN10 HWT
                        rcases hq10.cases with ⟨ev, eq⟩ | ⟨g, cp, ev⟩
                        · subst ev
                          subst eq
                          have e0 : nx idw ow (j9 + 1) = nj := by rw [HJN.out]; simp
                          have HE0 := Lib.hid e0
                          clear e0 hq10
                          go_wp2_with fail
                          go_loop [11, 14] (fun x z => x = .int .i64 nj ∧ z = .int .i64 0) (fun _ _ => 0)
                          case atStart => exact ⟨rfl, rfl⟩
                          case round =>
                            obtain ⟨rfl, rfl⟩ := hrel
                            go_wp2_with fail
                            exact ⟨⟨j9 + 1, by omega, by rw [HE0.out], by go_num, N10⟩, by simp [intOf]; omega⟩
                        · subst ev
                          obtain ⟨_, _, _, q3, _⟩ := hq10.cell
                          have HCl : Hid (∀ m, m < ql.length → w10.cell? ⟨g, m, none⟩ = some (.int .i64 (ql.getD m 0))) := fun m hm => by have := q3 m hm; rwa [Nat.zero_add] at this
                          clear hq10 q3 HQ10
                          go_wp2_with fail
                          go_loop [11, 14] (fun x z => ∃ m : Nat, m ≤ ql.length ∧ z = .int .i64 m ∧ x = .int .i64 (if (ql.take m).any (· == at9) = true then oj else nj)) (fun _ z => ql.length - (intOf z).toNat)
                          case atStart => exact ⟨0, by omega, rfl, by simp⟩
                          case round =>
                            obtain ⟨m, hm, rfl, rfl⟩ := hrel
                            by_cases hml : m < ql.length
                            · have ym : (m : Int) < ql.length := by omega
                              have cm := HCl.out m hml
                              have hqne : ql ≠ [] := by rintro rfl; simp at hml
                              have HOM := Lib.hid (HOWJ.out w10 N10.out hqne)
                              have HSU := Lib.hid (any_succ (p := (· == at9)) hml)
                              obtain ⟨cur, hcur⟩ : ∃ cur, (if (ql.take m).any (· == at9) = true then oj else nj) = cur := ⟨_, rfl⟩
                              have HCUR := Lib.hid hcur
                              rw [hcur]
                              clear hcur hqne
                              by_cases he : ql.getD m 0 = at9
                              · have d1 : (ql.getD m 0 == at9) = true := by simpa using he
                                have hn : Hid (oj = if (ql.take (m + 1)).any (· == at9) = true then oj else nj) := by
                                  show oj = _
                                  rw [HSU.out, d1]; simp
                                generalize ql.getD m 0 = qm at *
                                go_wp2_with fail
                                refine HOM.out.mono ?_
                                rintro e w11 ⟨rfl, rfl⟩
                                go_wp2_with fail
                                go_round
                                case rel => exact ⟨m + 1, by omega, by go_num, by rw [← hn.out]⟩
                                case measure => simp [intOf]; omega
                              · have d1 : (ql.getD m 0 == at9) = false := by simpa using he
                                have hn : Hid (cur = if (ql.take (m + 1)).any (· == at9) = true then oj else nj) := by
                                  show cur = _
                                  rw [HSU.out, d1, Bool.or_false, HCUR.out]
                                generalize ql.getD m 0 = qm at *
                                go_wp2_with fail
                                refine HOM.out.mono ?_
                                rintro e w11 ⟨rfl, rfl⟩
                                go_wp2_with fail
                                go_round
                                case rel => exact ⟨m + 1, by omega, by go_num, by rw [← hn.out]⟩
                                case measure => simp [intOf]; omega
                            · have ym : ¬ (m : Int) < ql.length := by omega
                              have e0 : (if (ql.take m).any (· == at9) = true then oj else nj) = nx idw ow (j9 + 1) := by
                                rw [HJN.out, List.take_of_length_le (by omega)]
                                by_cases e : at9 ∈ ql
                                · rw [if_pos e, if_pos (by simpa using e)]
                                · rw [if_neg e, if_neg (by simpa using e)]
                              rw [e0]
                              clear e0
                              go_wp2_with fail
                              exact ⟨⟨j9 + 1, by omega, rfl, by go_num, N10⟩, by simp [intOf]; omega⟩
                      · have y9 : ¬ (j9 : Int) < 6 := by omega
                        have e0 : nx idw ow j9 = ow := by unfold nx; rw [if_pos (by omega)]
                        rw [e0]
                        have z1 : decide (ow < 0) = false := by simp; omega
                        have z2 : decide ((sp : Int) > 5) = false := by simp; omega
                        clear e0
                        go_wp2_with fail
                        exact ⟨⟨ow, sp + 1, how.1, how.2, by omega, rfl, by go_num, HNX, N10⟩, by simp [intOf]; omega⟩
                  · have d2 : ((stT s5 at9).st == 2) = false := by simpa using hW
                    generalize (stT s5 at9).st = st9 at *
                    go_wp2_with fail
                    refine HST.out.mono ?_
                    rintro e w9 ⟨rfl, rfl⟩
                    clear HST
                    go_wp2_with fail
                    exact ⟨⟨t8 + 1, by omega, by go_num, N9⟩, by simp [intOf]; omega⟩
              · have y8 : ¬ (t8 : Int) < 5 := by omega
                have N11 : Hid (∃ s, ND s ∧ NSt w wr L (6 + (i + 1)) s) := ⟨s5, HND5.out, N8.out⟩
                clear N8
                go_wp2_with fail
                exact ⟨⟨i + 1, by omega, by omega, by go_num, N11⟩, by simp [intOf]; omega⟩
        · have hgo : (¬ (i : Int) < len) ∨ ((i : Int) < len ∧ ¬ (i : Int) < 80) := by omega
          have HB : Hid (Below w.heap.size w wr) := by
            obtain ⟨s, _, _, _, _, _, h3⟩ := NI.out
            exact h3
          rcases hgo with y0 | ⟨y0, y1⟩
          all_goals
            go_wp2_with fail
            go_ret
            exact ⟨rfl, HB.out⟩
end Go.Proofs.Ytefgfmnnaglfmaa
