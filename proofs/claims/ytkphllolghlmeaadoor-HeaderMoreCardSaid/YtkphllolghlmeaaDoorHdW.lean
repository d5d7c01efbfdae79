/- awake: answers that the document fixes. -/
import Derived.Test.YtkphllolghlmeaaDoorHdP
import Derived.Test.YtkphllolghlmeaaDoorHdT
import Derived.Test.YtkphllolghlmeaaDoorHdV
namespace Go.Proofs.YtkphllolghlmeaaDoor
open Go.RowKit

theorem run_eql_fld (w : World) (x y : Fld) : (binOp .eql 38 (.agg #[.string x.name, .string x.body]) (.agg #[.string y.name, .string y.body])).run Tryd.prog w = .ok (.bool (eqF x y)) w := by
  obtain ⟨f1, f2, e, n1, n2, t1, t2, o1, o2⟩ := fld_fields
  rw [run_eql_struct, run_equalIn_agg _ _ _ _ _ rfl (by kernel_rfl), e]
  have k1 : (part 9 #[Value.string x.name, .string x.body] 0).run Tryd.prog w = .ok (.string x.name) w := rfl
  have k2 : (part 9 #[Value.string y.name, .string y.body] 0).run Tryd.prog w = .ok (.string y.name) w := rfl
  have k3 : (part 9 #[Value.string x.name, .string x.body] 1).run Tryd.prog w = .ok (.string x.body) w := rfl
  have k4 : (part 9 #[Value.string y.name, .string y.body] 1).run Tryd.prog w = .ok (.string y.body) w := rfl
  have q1 := run_equalIn_string w 9998 9 x.name y.name Tryd.underlying9
  have q2 := run_equalIn_string w 9998 9 x.body y.body Tryd.underlying9
  have c1 : ¬ "Name" = "_" := by decide
  have c2 : ¬ "Body" = "_" := by decide
  unfold eqF
  cases b1 : (x.name.toList == y.name.toList) <;> cases b2 : (x.body.toList == y.body.toList) <;> rw [b1] at q1 <;> rw [b2] at q2 <;>
    simp [Op.eqFields, n1, n2, t1, t2, o1, o2, c1, c2, k1, k2, k3, k4, q1, q2, Sem.run_bind, Result.andThen_ok]
def litL : List Fld := [⟨⟨#[83, 117, 98, 106, 101, 99, 116]⟩, ⟨#[97, 32, 98]⟩⟩, ⟨⟨#[88]⟩, ⟨#[]⟩⟩]
def litF : Fld := ⟨⟨#[115, 117, 98, 106, 101, 99, 116]⟩, ⟨#[97, 32, 98]⟩⟩
def litS : ByteArray := ⟨#[115, 117, 98, 106, 101, 99, 116, 58, 32, 97, 13, 10, 32, 98, 13, 10, 13, 10, 98, 111, 100, 121]⟩
theorem lit_print : printS litL = [83, 117, 98, 106, 101, 99, 116, 58, 32, 97, 32, 98, 13, 10, 88, 58, 13, 10, 13, 10] ∧ printE litL = 0 := by decide +kernel
theorem lit_parse : (parseL litS.data.toList).length = 1 ∧ (parseL litS.data.toList).map (·.name.data.toList) = [litF.name.data.toList] ∧ (parseL litS.data.toList).map (·.body.data.toList) = [litF.body.data.toList] ∧ parseR litS.data.toList = [98, 111, 100, 121] ∧ parseE litS.data.toList = 0 := by decide +kernel
theorem lit_parse' : parseL litS.data.toList = [litF] := by
  obtain ⟨h1, h2, h3, _⟩ := lit_parse
  cases hp : parseL litS.data.toList with
  | nil => rw [hp] at h1; cases h1
  | cons x r =>
    cases r with
    | cons y r => rw [hp] at h1; simp at h1
    | nil =>
      rw [hp] at h2 h3
      simp only [List.map_cons, List.map_nil, List.cons.injEq, and_true] at h2 h3
      have : x = litF := by
        obtain ⟨⟨⟨a⟩⟩, ⟨⟨b⟩⟩⟩ := x
        simp only at h2 h3
        subst h2; subst h3; rfl
      rw [this]
theorem lit_x : parseE [120] = 2 := by decide +kernel
theorem lit_get : getV [litF] ⟨#[83, 85, 66, 74, 69, 67, 84]⟩ = ⟨#[97, 32, 98]⟩ ∧ getB [litF] ⟨#[83, 85, 66, 74, 69, 67, 84]⟩ = true := by
  have : same litF.name ⟨#[83, 85, 66, 74, 69, 67, 84]⟩ = true := by decide +kernel
  unfold getV getB getF
  rw [List.find?_cons, this]; exact ⟨rfl, rfl⟩
theorem lit_same : same ⟨#[65]⟩ ⟨#[97]⟩ = true := by decide +kernel
theorem lit_right : right litF = true := by decide +kernel
theorem aw_print (w : World) (hm : ML w) :
    Calls Tryd.prog 11 #[.slice (some ⟨w.heap.size, 0, none⟩) 2 2] (w.alloc (.cells #[.string ⟨#[83, 117, 98, 106, 101, 99, 116]⟩, .string ⟨#[97, 32, 98]⟩, .string ⟨#[88]⟩, .string ⟨#[]⟩] 38)) fun e w' =>
      e = .returned (.tuple #[.string ⟨#[83, 117, 98, 106, 101, 99, 116, 58, 32, 97, 32, 98, 13, 10, 88, 58, 13, 10, 13, 10]⟩, .int .i64 0]) ∧ Chg NoB w w' := by
  have hb := Blk.new w #[.string ⟨#[83, 117, 98, 106, 101, 99, 116]⟩, .string ⟨#[97, 32, 98]⟩, .string ⟨#[88]⟩, .string ⟨#[]⟩] 38
  have ho : Own (w.alloc (.cells #[.string ⟨#[83, 117, 98, 106, 101, 99, 116]⟩, .string ⟨#[97, 32, 98]⟩, .string ⟨#[88]⟩, .string ⟨#[]⟩] 38)) 38 2 (some ⟨w.heap.size, 0, none⟩) 2 2 (fldsC litL) := Own.of_blk hb rfl (Nat.le_refl _) (by decide) rfl rfl
  refine (hd_print _ _ 2 2 litL (FldsAt.of_own ho) (by omega) (fun x hx => by
    simp only [litL, List.mem_cons, List.not_mem_nil, or_false] at hx
    rcases hx with rfl | rfl <;> exact ⟨by decide, by decide⟩) (hm.keep ((Chg.refl NoB w).alloc _) not_false)).mono fun e w' ⟨h1, h2⟩ => ⟨?_, ((Chg.refl NoB w).alloc _).trans h2 (fun _ _ h => h)⟩
  rw [h1, lit_print.1, lit_print.2]; rfl
theorem aw_parse1 (w : World) (hm : ML w) :
    Calls Tryd.prog 13 #[.string ⟨#[115, 117, 98, 106, 101, 99, 116, 58, 32, 97, 13, 10, 32, 98, 13, 10, 13, 10, 98, 111, 100, 121]⟩] w fun e w' =>
      ∃ g c, e = .returned (.tuple #[.slice (some ⟨g, 0, none⟩) 1 c, .string ⟨#[98, 111, 100, 121]⟩, .int .i64 0]) ∧ Own w' 38 2 (some ⟨g, 0, none⟩) 1 c (fldsC [litF]) ∧ Chg NoB w w' := by
  refine (hd_parse w litS (by decide) hm).mono fun e w' ⟨A, c, h1, h2, h3⟩ => ?_
  obtain ⟨_, _, _, p1, p2⟩ := lit_parse
  rw [lit_parse'] at h1 h2
  rw [p1, p2] at h1
  obtain ⟨g, rfl, _⟩ := h2.addr (by decide)
  exact ⟨g, c, h1, h2, h3⟩
theorem aw_parse2 (w : World) (hm : ML w) :
    Calls Tryd.prog 13 #[.string ⟨#[120]⟩] w fun e w' => ∃ A n c, e = .returned (.tuple #[.slice A n c, .string ⟨#[]⟩, .int .i64 2]) ∧ Chg NoB w w' := by
  refine (hd_parse w ⟨#[120]⟩ (by decide) hm).mono fun e w' ⟨A, c, h1, h2, h3⟩ => ?_
  have hb := parse_bad lit_x (by decide)
  refine ⟨A, (parseL (ByteArray.mk #[120]).data.toList).length, c, ?_, h3⟩
  rw [h1, show parseE (ByteArray.mk #[120]).data.toList = 2 from lit_x, show parseR (ByteArray.mk #[120]).data.toList = [] from hb.2]; rfl
theorem aw_get (w : World) (g c : Nat) (h : Own w 38 2 (some ⟨g, 0, none⟩) 1 c (fldsC [litF])) :
    Calls Tryd.prog 15 #[.slice (some ⟨g, 0, none⟩) 1 c, .string ⟨#[83, 85, 66, 74, 69, 67, 84]⟩] w fun e w' => e = .returned (.tuple #[.string ⟨#[97, 32, 98]⟩, .bool true]) ∧ Chg NoB w w' := by
  refine (hd_get w _ 1 c [litF] _ (FldsAt.of_own h) (by omega) (fun x hx => by
    simp only [List.mem_cons, List.not_mem_nil, or_false] at hx
    rw [hx]; exact ⟨by decide, by decide⟩) (by decide)).mono fun e w' ⟨h1, h2⟩ => ⟨?_, h2⟩
  rw [h1, lit_get.1, lit_get.2]
theorem aw_same (w : World) : Calls Tryd.prog 19 #[.string ⟨#[65]⟩, .string ⟨#[97]⟩] w fun e w' => e = .returned (.bool true) ∧ Chg NoB w w' := by
  have := hd_same w ⟨#[65]⟩ ⟨#[97]⟩ (by decide) (by decide)
  rw [lit_same] at this; exact this
theorem aw_right (w : World) : Calls Tryd.prog 17 #[.agg #[.string ⟨#[115, 117, 98, 106, 101, 99, 116]⟩, .string ⟨#[97, 32, 98]⟩]] w fun e w' => e = .returned (.bool true) ∧ Chg NoB w w' := by
  have := hd_right w litF (by decide) (by decide)
  rw [lit_right] at this; exact this
set_option maxRecDepth 100000 in
set_option maxHeartbeats 4000000 in
theorem awake_true (w : World) (hm : ML w) : Calls Tryd.prog 9 #[] w fun e w' => e = .returned (.bool true) ∧ Chg NoB w w' := by
  have HM := hid hm
  clear hm
  have hq := fun wx => run_eql_fld wx litF litF
  rw [show eqF litF litF = true from (eqF_iff _ _).2 rfl] at hq
  have hq' : ∀ wx, (binOp .eql 38 (.agg #[.string ⟨#[115, 117, 98, 106, 101, 99, 116]⟩, .string ⟨#[97, 32, 98]⟩]) (.agg #[.string ⟨#[115, 117, 98, 106, 101, 99, 116]⟩, .string ⟨#[97, 32, 98]⟩])).run Tryd.prog wx = .ok (.bool true) wx := hq
  clear hq
  go_enter Tryd.func9, Tryd.ntmps9
  go_wp2_with (first
    | ((with_reducible (go_at_call 11; refine (aw_print _ HM.out).mono ?_)); rintro e w1 ⟨rfl, hc1⟩; have HC1 := hid hc1; have HM1 := hid (HM.out.keep hc1 not_false); clear hc1)
    | ((with_reducible (go_at_call 13; refine (aw_parse1 w1 HM1.out).mono ?_)); rintro e w2 ⟨g, c, rfl, ho2, hc2⟩; have HC2 := hid (HC1.out.trans hc2 (fun _ _ h => h)); have HO2 := hid ho2; have HM2 := hid (HM.out.keep HC2.out not_false); clear hc2 ho2)
    | ((with_reducible (go_at_call 13; refine (aw_parse2 w2 HM2.out).mono ?_)); rintro e w3 ⟨A3, n3, c3, rfl, hc3⟩; have HC3 := hid (HC2.out.trans hc3 (fun _ _ h => h)); have HO3 := hid (HO2.out.keep hc3 (fun _ _ => not_false)); clear hc3)
    | ((with_reducible (go_at_call 15; refine (aw_get w3 g c HO3.out).mono ?_)); rintro e w4 ⟨rfl, hc4⟩; have HC4 := hid (HC3.out.trans hc4 (fun _ _ h => h)); have HO4 := hid (HO3.out.keep hc4 (fun _ _ => not_false)); have k0 := HO4.out.cell rfl 0 (.string ⟨#[115, 117, 98, 106, 101, 99, 116]⟩) rfl; have k1 := HO4.out.cell rfl 1 (.string ⟨#[97, 32, 98]⟩) rfl; clear hc4)
    | ((with_reducible (go_at_call 19; refine (aw_same _).mono ?_)); rintro e w5 ⟨rfl, hc5⟩; have HC5 := hid (HC4.out.trans hc5 (fun _ _ h => h)); have q0 := hc5.cell k0 not_false; have q1 := hc5.cell k1 not_false; clear hc5)
    | ((with_reducible (go_at_call 17; refine (aw_right _).mono ?_)); rintro e w6 ⟨rfl, hc6⟩; have HC6 := hid (HC5.out.trans hc6 (fun _ _ h => h)); clear hc6))
  go_ret
  exact ⟨rfl, HC6.out⟩
end Go.Proofs.YtkphllolghlmeaaDoor
