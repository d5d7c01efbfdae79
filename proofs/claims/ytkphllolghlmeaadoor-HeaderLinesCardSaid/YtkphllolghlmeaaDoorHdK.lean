/- The document's Print: the walk. -/
import Derived.Test.YtkphllolghlmeaaDoorHdJ
namespace Go.Proofs.YtkphllolghlmeaaDoor
open Go.RowKit

def longF (x : Fld) : Bool := decide (998 < longest (linesF x))
/-- What Print answers: the error's number, the text. -/
def printE (l : List Fld) : Nat := if l.all right = false then 2 else if 64 < l.length then 3 else if l.any longF then 3 else 0
def printS (l : List Fld) : List UInt8 := if printE l = 0 then l.flatMap foldS ++ [13, 10] else []
theorem printE_form {l : List Fld} (h : l.all right = false) : printE l = 2 := by unfold printE; rw [if_pos h]
theorem printE_many {l : List Fld} (h : l.all right = true) (h2 : 64 < l.length) : printE l = 3 := by unfold printE; rw [if_neg (by rw [h]; simp), if_pos h2]
theorem printE_long {l : List Fld} (h : l.all right = true) (h2 : ¬ 64 < l.length) (h3 : l.any longF = true) : printE l = 3 := by unfold printE; rw [if_neg (by rw [h]; simp), if_neg h2, if_pos h3]
theorem printE_ok {l : List Fld} (h : l.all right = true) (h2 : ¬ 64 < l.length) (h3 : l.any longF = false) : printE l = 0 := by unfold printE; rw [if_neg (by rw [h]; simp), if_neg h2, if_neg (by rw [h3]; simp)]
theorem printS_bad {l : List Fld} {e : Nat} (h : printE l = e) (he : e ≠ 0) : printS l = [] := by unfold printS; rw [if_neg (by rw [h]; exact he)]
theorem printS_ok {l : List Fld} (h : printE l = 0) : printS l = l.flatMap foldS ++ [13, 10] := by unfold printS; rw [if_pos h]
theorem str_nil : str [] = ⟨#[]⟩ := rfl
/-- All of a row till i. -/
def TillF (p : Fld → Bool) (l : List Fld) (i : Nat) : Prop := (l.take i).all p = true
theorem TillF.zero (p : Fld → Bool) (l : List Fld) : TillF p l 0 := rfl
theorem TillF.succ {p : Fld → Bool} {l : List Fld} {i : Nat} {x : Fld} (h : TillF p l i) (hx : l[i]? = some x) (hp : p x = true) : TillF p l (i + 1) := by
  unfold TillF at *
  rw [List.take_add_one, hx, List.all_append, h]; simp [hp]
theorem TillF.all {p : Fld → Bool} {l : List Fld} {i : Nat} (h : TillF p l i) (hi : l.length ≤ i) : l.all p = true := by
  unfold TillF at h; rwa [List.take_of_length_le hi] at h
theorem all_not_f {p : Fld → Bool} {l : List Fld} {i : Nat} {x : Fld} (hx : l[i]? = some x) (hp : p x = false) : l.all p = false := by
  rw [List.all_eq_false]; exact ⟨x, List.mem_of_getElem? hx, by simp [hp]⟩
theorem any_is_f {p : Fld → Bool} {l : List Fld} {i : Nat} {x : Fld} (hx : l[i]? = some x) (hp : p x = true) : l.any p = true := by
  rw [List.any_eq_true]; exact ⟨x, List.mem_of_getElem? hx, hp⟩
/-- What has been written behind i fields; none of them is too long. -/
def OutTill (l : List Fld) (i : Nat) (o : ByteArray) : Prop := o = str ((l.take i).flatMap foldS) ∧ TillF (fun x => !longF x) l i
theorem OutTill.zero (l : List Fld) : OutTill l 0 ⟨#[]⟩ := ⟨rfl, rfl⟩
theorem OutTill.succ {l : List Fld} {i : Nat} {x : Fld} {o : ByteArray} (h : OutTill l i o) (hx : l[i]? = some x) (hp : longF x = false) : OutTill l (i + 1) (o ++ str (foldS x)) := by
  refine ⟨?_, h.2.succ hx (by simp [hp])⟩
  rw [h.1, str_add, List.take_add_one, hx]
  simp
theorem OutTill.done {l : List Fld} {i : Nat} {o : ByteArray} (h : OutTill l i o) (hi : l.length ≤ i) (hr : l.all right = true) (h64 : ¬ 64 < l.length) : o ++ ⟨#[13, 10]⟩ = str (printS l) ∧ printE l = 0 := by
  have ha := h.2.all hi
  have : l.any longF = false := by
    rw [List.any_eq_false]
    intro x hx
    have := List.all_eq_true.1 ha x hx
    simpa using this
  have h0 := printE_ok hr h64 this
  refine ⟨?_, h0⟩
  rw [printS_ok h0, h.1, List.take_of_length_le hi]
  exact str_add _ _
/-- A field's lines are no longer than what they are made of. -/
theorem foldW_len : ∀ (ws : List (List UInt8)) (b : Bool) (s : List (List UInt8) × List UInt8),
    ((foldW b s ws).1.flatMap crlf).length + (foldW b s ws).2.length ≤ (s.1.flatMap crlf).length + s.2.length + (ws.map List.length).sum + 3 * ws.length
  | [], b, s => by simp [foldW]
  | w :: ws, b, s => by
    have ih := foldW_len ws false (putW b s w)
    rw [foldW]
    refine Nat.le_trans ih ?_
    unfold putW
    split <;> simp [crlf] <;> omega
theorem splitSp_sum (l : List UInt8) : ((splitSp l).map List.length).sum + (splitSp l).length = l.length + 1 := by
  induction l with
  | nil => simp [splitSp]
  | cons c r ih =>
    unfold splitSp
    by_cases h : c = 32
    · rw [if_pos h]; simp; omega
    · rw [if_neg h]
      cases hs : splitSp r with
      | nil => exact absurd hs (splitSp_ne r)
      | cons w ws => rw [hs] at ih; simp at ih ⊢; omega
theorem foldS_len (x : Fld) : (foldS x).length ≤ x.name.size + 3 * x.body.size + 6 := by
  unfold foldS linesF
  have h0 := headL_len x
  by_cases hb : x.body.data.toList = []
  · rw [if_pos hb]; simp [crlf]; omega
  · rw [if_neg hb]
    have h1 := foldW_len (splitSp x.body.data.toList) true ([], headL x)
    have h2 := splitSp_sum x.body.data.toList
    rw [len_data] at h2
    simp [crlf] at h1 ⊢
    omega
theorem flat_len (l : List Fld) (hl : Sized l) : (l.flatMap foldS).length ≤ 4000006 * l.length := by
  induction l with
  | nil => simp
  | cons x r ih =>
    have h1 := foldS_len x
    have h2 := hl x (by simp)
    have := ih (fun y hy => hl y (by simp [hy]))
    simp at this ⊢; omega
theorem OutTill.size {l : List Fld} {i : Nat} {o : ByteArray} (h : OutTill l i o) (hl : Sized l) : o.size ≤ 4000006 * i := by
  rw [h.1, str_size]
  have := flat_len (l.take i) (fun y hy => hl y (List.mem_of_mem_take hy))
  have h2 : (l.take i).length ≤ i := List.length_take_le _ _
  have : 4000006 * (l.take i).length ≤ 4000006 * i := Nat.mul_le_mul_left _ h2
  omega
theorem FldsAt.get {w : World} {A : Option Addr} {n : Nat} {l : List Fld} (h : FldsAt w A n l) {i : Nat} (hi : i < n) :
    ∃ b o x, A = some ⟨b, o, none⟩ ∧ b < w.heap.size ∧ l[i]? = some x ∧ w.cell? ⟨b, o + i * 2, none⟩ = some (.string x.name) ∧ w.cell? ⟨b, o + i * 2 + 1, none⟩ = some (.string x.body) := by
  obtain ⟨b, o, hA, hb, hc⟩ := h.2 (by omega)
  have hx : l[i]? = some (l[i]'(by rw [h.1]; exact hi)) := List.getElem?_eq_getElem _
  exact ⟨b, o, _, hA, hb, hx, hc i _ hx⟩
set_option maxRecDepth 100000 in
set_option maxHeartbeats 8000000 in
theorem ref_print (w : World) (A : Option Addr) (n c : Nat) (l : List Fld) (h : FldsAt w A n l) (hn : n ≤ 1000000) (hl : Sized l) :
    Calls Tryd.prog 12 #[.slice A n c] w fun e w' => e = .returned (.tuple #[.string (str (printS l)), .int .i64 (printE l)]) ∧ Chg NoB w w' := by
  have HA := hid h
  have hlen := hid h.1
  clear h
  go_enter Tryd.func12, Tryd.ntmps12
  go_wp2
  go_loopw [4] (fun v wr => ∃ i : Nat, v = .int .i64 i ∧ i ≤ n ∧ Hid (TillF right l i) ∧ Hid (Chg NoB w wr)) (fun v _ => n - (intOf v).toNat)
  case atStart => exact ⟨0, rfl, Nat.zero_le _, hid (TillF.zero _ _), hid (Chg.refl NoB w)⟩
  case round =>
    obtain ⟨i, rfl, h1, HN, HQ⟩ := hrel
    by_cases hlt : i < n
    · have t1 : decide ((i : Int) < (n : Int)) = true := decide_eq_true (by omega)
      have t2 : decide (i < n) = true := decide_eq_true hlt
      have i0 : (0 : Int) ≤ (i : Int) := by omega
      have i1 : (i : Int) < (n : Int) := by omega
      obtain ⟨b, o, x, rfl, hb, hx, k0, k1⟩ := (HA.out.keep HQ.out).get hlt
      have hz := hl.at hx
      have HX := hid hx
      clear hx
      cases hr : right x
      · have HE := hid (printE_form (all_not_f HX.out hr))
        go_wp2_with ((with_reducible (go_at_call 18; refine (ref_right _ x hz.1 hz.2).mono ?_)); rintro e w1 ⟨rfl, hc1⟩; rw [hr])
        go_ret2
        exact ⟨by rw [HE.out, printS_bad HE.out (by decide)]; rfl, HQ.out.trans hc1 (fun _ _ h => h)⟩
      · go_wp2_with ((with_reducible (go_at_call 18; refine (ref_right _ x hz.1 hz.2).mono ?_)); rintro e w1 ⟨rfl, hc1⟩; rw [hr])
        go_roundw
        case rel => exact ⟨i + 1, by go_num, by omega, hid (HN.out.succ HX.out hr), hid (HQ.out.trans hc1 (fun _ _ h => h))⟩
        case measure => simp [intOf]; omega
    · have t1 : decide ((i : Int) < (n : Int)) = false := decide_eq_false (by omega)
      have t2 : decide (i < n) = false := decide_eq_false hlt
      have HR := hid (HN.out.all (by rw [hlen.out]; omega))
      by_cases h64 : 64 < n
      · have t3 : decide (64 < (n : Int)) = true := decide_eq_true (by omega)
        have HE := hid (printE_many HR.out (by rw [hlen.out]; exact h64))
        go_wp2
        go_ret2
        exact ⟨by rw [HE.out, printS_bad HE.out (by decide)]; rfl, HQ.out⟩
      · have t3 : decide (64 < (n : Int)) = false := decide_eq_false (by omega)
        have HQ0 := HQ
        clear HN
        go_wp2
        obtain ⟨wo, hwo⟩ : ∃ wo : World, wo = wr := ⟨_, rfl⟩
        go_loopw [5, 6, 7, 8] (fun u v _ _ wr => ∃ (i : Nat) (o : ByteArray), u = .string o ∧ v = .int .i64 i ∧ i ≤ n ∧ o.size ≤ 4000006 * i ∧ Hid (OutTill l i o) ∧ Hid (Chg NoB w wr)) (fun _ v _ _ _ => n - (intOf v).toNat)
        case atStart => exact ⟨0, _, rfl, rfl, Nat.zero_le _, Nat.zero_le _, hid (OutTill.zero _), HQ0⟩
        case round =>
          clear t1 t2 hlt h1
          obtain ⟨i, o, rfl, rfl, h1, hos, HO, HQ⟩ := hrel
          by_cases hlt : i < n
          · have t1 : decide ((i : Int) < (n : Int)) = true := decide_eq_true (by omega)
            have t2 : decide (i < n) = true := decide_eq_true hlt
            have i0 : (0 : Int) ≤ (i : Int) := by omega
            have i1 : (i : Int) < (n : Int) := by omega
            obtain ⟨b, o2, x, rfl, hb, hx, k0, k1⟩ := (HA.out.keep HQ.out).get hlt
            have hz := hl.at hx
            have HX := hid hx
            have hfs : (str (foldS x)).size ≤ 4000006 := by rw [str_size]; have := foldS_len x; omega
            have hadd : (o ++ str (foldS x)).size = o.size + (str (foldS x)).size := ByteArray.size_append
            clear hx
            cases hr : longF x
            · have t4 : decide (998 < (longest (linesF x) : Int)) = false := by
                have : ¬ 998 < longest (linesF x) := of_decide_eq_false hr
                exact decide_eq_false (by omega)
              have t5 : decide (998 < longest (linesF x)) = false := hr
              go_wp2_with ((with_reducible (go_at_call 25; refine (ref_fold _ x hz.1 hz.2).mono ?_)); rintro e w1 ⟨rfl, hc1⟩)
              go_roundw
              case rel => exact ⟨i + 1, _, rfl, by go_num, by omega, by rw [hadd]; omega, hid (HO.out.succ HX.out hr), hid (HQ.out.trans hc1 (fun _ _ h => h))⟩
              case measure => simp [intOf]; omega
            · have t4 : decide (998 < (longest (linesF x) : Int)) = true := by
                have : 998 < longest (linesF x) := of_decide_eq_true hr
                exact decide_eq_true (by omega)
              have t5 : decide (998 < longest (linesF x)) = true := hr
              have HE := hid (printE_long HR.out (by rw [hlen.out]; exact h64) (any_is_f HX.out hr))
              go_wp2_with ((with_reducible (go_at_call 25; refine (ref_fold _ x hz.1 hz.2).mono ?_)); rintro e w1 ⟨rfl, hc1⟩)
              go_ret2
              exact ⟨by rw [HE.out, printS_bad HE.out (by decide)]; rfl, HQ.out.trans hc1 (fun _ _ h => h)⟩
          · have t1 : decide ((i : Int) < (n : Int)) = false := decide_eq_false (by omega)
            have t2 : decide (i < n) = false := decide_eq_false hlt
            have hadd : (o ++ ⟨#[13, 10]⟩).size = o.size + 2 := ByteArray.size_append
            have HE := hid (HO.out.done (by rw [hlen.out]; omega) HR.out (by rw [hlen.out]; exact h64))
            go_wp2
            go_ret2
            exact ⟨by rw [← HE.out.1, HE.out.2]; rfl, HQ.out⟩
end Go.Proofs.YtkphllolghlmeaaDoor
