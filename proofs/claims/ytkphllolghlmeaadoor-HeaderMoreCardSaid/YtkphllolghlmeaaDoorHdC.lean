import Derived.Test.YtkphllolghlmeaaDoorHdB
namespace Go.Proofs.YtkphllolghlmeaaDoor
open Go.RowKit
set_option linter.unusedVariables false

def nameC (c : UInt8) : Bool := decide (33 ≤ c.toNat ∧ c.toNat ≤ 126 ∧ c.toNat ≠ 58)
def bodyC (c : UInt8) : Bool := decide (c.toNat ≠ 0 ∧ c.toNat ≠ 10 ∧ c.toNat ≠ 13)
def okName (n : List UInt8) : Bool := decide (1 ≤ n.length ∧ n.length ≤ 64) && n.all nameC
/-- No blank at its ends. -/
def ends (b : List UInt8) : Bool := match b.head?, b.getLast? with | some x, some y => !isBlank x && !isBlank y | _, _ => true
def okBody (b : List UInt8) : Bool := b.all bodyC && ends b
def right (x : Fld) : Bool := okName x.name.data.toList && okBody x.body.data.toList
def AllTill (p : UInt8 → Bool) (l : List UInt8) (i : Nat) : Prop := ∀ (j : Nat) (b : UInt8), j < i → l[j]? = some b → p b = true
theorem AllTill.zero (p : UInt8 → Bool) (l : List UInt8) : AllTill p l 0 := fun _ _ h => absurd h (Nat.not_lt_zero _)
theorem AllTill.succ {p : UInt8 → Bool} {l : List UInt8} {i : Nat} {x : UInt8} (h : AllTill p l i) (hx : l[i]? = some x) (hs : p x = true) : AllTill p l (i + 1) := fun j y hj hy => by
  rcases Nat.lt_succ_iff_lt_or_eq.1 hj with h' | h'
  · exact h j y h' hy
  · subst h'; rw [hx] at hy; injection hy with hy; rw [← hy]; exact hs
theorem AllTill.all {p : UInt8 → Bool} {l : List UInt8} {i : Nat} (h : AllTill p l i) (hi : l.length ≤ i) : l.all p = true := by
  rw [List.all_eq_true]
  intro x hx
  obtain ⟨j, hj⟩ := List.getElem?_of_mem hx
  exact h j x (by have := (List.getElem?_eq_some_iff.1 hj).1; omega) hj
theorem all_not {p : UInt8 → Bool} {l : List UInt8} {i : Nat} {x : UInt8} (hx : l[i]? = some x) (hs : p x = false) : l.all p = false := by
  rw [List.all_eq_false]
  exact ⟨x, List.mem_of_getElem? hx, by simp [hs]⟩
theorem len_data (s : ByteArray) : s.data.toList.length = s.size := Array.length_toList
theorem ends_at {s : ByteArray} {x y : UInt8} (hx : s.data.toList[0]? = some x) (hy : s.data.toList[s.size - 1]? = some y) : ends s.data.toList = (!isBlank x && !isBlank y) := by
  unfold ends
  rw [List.head?_eq_getElem?, hx, List.getLast?_eq_getElem?, len_data, hy]
theorem ends_nil {s : ByteArray} (h : s.size = 0) : ends s.data.toList = true := by
  have : s.data.toList = [] := List.eq_nil_of_length_eq_zero (by rw [len_data, h])
  rw [this]; rfl
theorem right_len {x : Fld} (h : ¬ (1 ≤ x.name.size ∧ x.name.size ≤ 64)) : right x = false := by
  unfold right okName
  rw [decide_eq_false (by rw [len_data]; exact h)]; rfl
theorem right_name {x : Fld} (h : x.name.data.toList.all nameC = false) : right x = false := by
  unfold right okName
  rw [h, Bool.and_false]; rfl
theorem right_body {x : Fld} (h : x.body.data.toList.all bodyC = false) : right x = false := by
  unfold right okBody
  rw [h]; simp
theorem right_rest {x : Fld} (h0 : 1 ≤ x.name.size ∧ x.name.size ≤ 64) (h1 : x.name.data.toList.all nameC = true) (h2 : x.body.data.toList.all bodyC = true) : right x = ends x.body.data.toList := by
  unfold right okName okBody
  rw [decide_eq_true (by rw [len_data]; exact h0), h1, h2]; rfl

set_option maxRecDepth 100000 in
set_option maxHeartbeats 4000000 in
theorem ref_right (w : World) (x : Fld) (hn : x.name.size ≤ 1000000) (hb : x.body.size ≤ 1000000) :
    Calls Tryd.prog 18 #[.agg #[.string x.name, .string x.body]] w fun e w' => e = .returned (.bool (right x)) ∧ Chg NoB w w' := by
  by_cases h1 : 1 ≤ x.name.size
  case neg =>
    have t1 : decide ((x.name.size : Int) < 1) = true := decide_eq_true (by omega)
    have HR := hid (right_len (x := x) (by omega))
    go_enter Tryd.func18, Tryd.ntmps18
    go_wp2
    go_ret
    exact ⟨by rw [HR.out]; rfl, (Chg.refl NoB w).alloc _⟩
  by_cases h2 : x.name.size ≤ 64
  case neg =>
    have t1 : decide ((x.name.size : Int) < 1) = false := decide_eq_false (by omega)
    have t2 : decide (64 < (x.name.size : Int)) = true := decide_eq_true (by omega)
    have HR := hid (right_len (x := x) (by omega))
    go_enter Tryd.func18, Tryd.ntmps18
    go_wp2
    go_ret
    exact ⟨by rw [HR.out]; rfl, (Chg.refl NoB w).alloc _⟩
  have t1 : decide ((x.name.size : Int) < 1) = false := decide_eq_false (by omega)
  have t2 : decide (64 < (x.name.size : Int)) = false := decide_eq_false (by omega)
  have HL := hid (And.intro h1 h2)
  go_enter Tryd.func18, Tryd.ntmps18
  go_wp2
  go_loop [3] (fun v => ∃ i : Nat, v = .int .i64 i ∧ i ≤ x.name.size ∧ Hid (AllTill nameC x.name.data.toList i)) (fun v => x.name.size - (intOf v).toNat)
  case atStart => exact ⟨0, rfl, Nat.zero_le _, hid (AllTill.zero _ _)⟩
  case round =>
    obtain ⟨i, rfl, hi, HN⟩ := hrel
    by_cases hlt : i < x.name.size
    · have t3 : decide ((i : Int) < (x.name.size : Int)) = true := decide_eq_true (by omega)
      have t4 : decide (i < x.name.size) = true := decide_eq_true hlt
      have i0 : (0 : Int) ≤ (i : Int) := by omega
      have i1 : (i : Int) < (x.name.size : Int) := by omega
      obtain ⟨c, hc, hcl⟩ := byte_at x.name i hlt
      have HX := hid hcl
      clear hcl
      have c8 := c.toNat_lt
      by_cases hok : 33 ≤ c.toNat ∧ c.toNat ≤ 126 ∧ c.toNat ≠ 58
      · have d1 : decide ((c.toNat : Int) < 33) = false := decide_eq_false (by omega)
        have d2 : decide (126 < (c.toNat : Int)) = false := decide_eq_false (by omega)
        have d3 : ((c.toNat : Int) == 58) = false := by rw [beq_eq_false_iff_ne]; omega
        have HP : Hid (nameC c = true) := hid (decide_eq_true hok)
        clear hok
        go_wp2
        go_round
        case rel => exact ⟨i + 1, by go_num, by omega, hid (HN.out.succ HX.out HP.out)⟩
        case measure => simp [intOf]; omega
      · have HP : Hid (right x = false) := hid (right_name (all_not HX.out (decide_eq_false hok)))
        by_cases e1 : c.toNat < 33
        · have d1 : decide ((c.toNat : Int) < 33) = true := decide_eq_true (by omega)
          clear hok
          go_wp2
          go_ret
          exact ⟨by rw [HP.out]; rfl, (Chg.refl NoB w).alloc _⟩
        · have d1 : decide ((c.toNat : Int) < 33) = false := decide_eq_false (by omega)
          by_cases e2 : 126 < c.toNat
          · have d2 : decide (126 < (c.toNat : Int)) = true := decide_eq_true (by omega)
            clear hok
            go_wp2
            go_ret
            exact ⟨by rw [HP.out]; rfl, (Chg.refl NoB w).alloc _⟩
          · have d2 : decide (126 < (c.toNat : Int)) = false := decide_eq_false (by omega)
            have d3 : ((c.toNat : Int) == 58) = true := by rw [beq_iff_eq]; omega
            clear hok
            go_wp2
            go_ret
            exact ⟨by rw [HP.out]; rfl, (Chg.refl NoB w).alloc _⟩
    · have t3 : decide ((i : Int) < (x.name.size : Int)) = false := decide_eq_false (by omega)
      have t4 : decide (i < x.name.size) = false := decide_eq_false hlt
      have HNA := hid (HN.out.all (by rw [len_data]; omega))
      clear HN
      go_wp2
      go_loop [4] (fun v => ∃ i : Nat, v = .int .i64 i ∧ i ≤ x.body.size ∧ Hid (AllTill bodyC x.body.data.toList i)) (fun v => x.body.size - (intOf v).toNat)
      case atStart => exact ⟨0, rfl, Nat.zero_le _, hid (AllTill.zero _ _)⟩
      case round =>
        clear hlt t3 t4
        obtain ⟨j, rfl, hj, HN⟩ := hrel
        by_cases hlt : j < x.body.size
        · have t3 : decide ((j : Int) < (x.body.size : Int)) = true := decide_eq_true (by omega)
          have t4 : decide (j < x.body.size) = true := decide_eq_true hlt
          have i0 : (0 : Int) ≤ (j : Int) := by omega
          have i1 : (j : Int) < (x.body.size : Int) := by omega
          obtain ⟨c, hc, hcl⟩ := byte_at x.body j hlt
          have HX := hid hcl
          clear hcl
          have c8 := c.toNat_lt
          by_cases hok : c.toNat ≠ 0 ∧ c.toNat ≠ 10 ∧ c.toNat ≠ 13
          · have d1 : ((c.toNat : Int) == 0) = false := by rw [beq_eq_false_iff_ne]; omega
            have d2 : ((c.toNat : Int) == 10) = false := by rw [beq_eq_false_iff_ne]; omega
            have d3 : ((c.toNat : Int) == 13) = false := by rw [beq_eq_false_iff_ne]; omega
            have HP : Hid (bodyC c = true) := hid (decide_eq_true hok)
            clear hok
            go_wp2
            go_round
            case rel => exact ⟨j + 1, by go_num, by omega, hid (HN.out.succ HX.out HP.out)⟩
            case measure => simp [intOf]; omega
          · have HP : Hid (right x = false) := hid (right_body (all_not HX.out (decide_eq_false hok)))
            by_cases e1 : c.toNat = 0
            · have d1 : ((c.toNat : Int) == 0) = true := by rw [beq_iff_eq]; omega
              clear hok
              go_wp2
              go_ret
              exact ⟨by rw [HP.out]; rfl, (Chg.refl NoB w).alloc _⟩
            · have d1 : ((c.toNat : Int) == 0) = false := by rw [beq_eq_false_iff_ne]; omega
              by_cases e2 : c.toNat = 10
              · have d2 : ((c.toNat : Int) == 10) = true := by rw [beq_iff_eq]; omega
                clear hok
                go_wp2
                go_ret
                exact ⟨by rw [HP.out]; rfl, (Chg.refl NoB w).alloc _⟩
              · have d2 : ((c.toNat : Int) == 10) = false := by rw [beq_eq_false_iff_ne]; omega
                have d3 : ((c.toNat : Int) == 13) = true := by rw [beq_iff_eq]; omega
                clear hok
                go_wp2
                go_ret
                exact ⟨by rw [HP.out]; rfl, (Chg.refl NoB w).alloc _⟩
        · have t3 : decide ((j : Int) < (x.body.size : Int)) = false := decide_eq_false (by omega)
          have t4 : decide (j < x.body.size) = false := decide_eq_false hlt
          have HBA := hid (HN.out.all (by rw [len_data]; omega))
          clear HN
          have HR := hid (right_rest HL.out HNA.out HBA.out)
          by_cases hz : x.body.size = 0
          · have d1 : ((x.body.size : Int) == 0) = true := by rw [beq_iff_eq]; omega
            have HE := hid (ends_nil hz)
            go_wp2
            go_ret
            exact ⟨by rw [HR.out, HE.out]; rfl, (Chg.refl NoB w).alloc _⟩
          · have d1 : ((x.body.size : Int) == 0) = false := by rw [beq_eq_false_iff_ne]; omega
            have i0 : (0 : Int) < (x.body.size : Int) := by omega
            have i1 : (0 : Int) ≤ (x.body.size : Int) - 1 := by omega
            have i2 : (x.body.size : Int) - 1 < (x.body.size : Int) := by omega
            obtain ⟨c, hc, hcl⟩ := byte_at x.body 0 (by omega)
            obtain ⟨d, hd, hdl⟩ := byte_at x.body (x.body.size - 1) (by omega)
            have HE := hid (ends_at hcl hdl)
            clear hcl hdl
            have hd' : x.body[((x.body.size : Int) - 1).toNat]'(by omega) = d := by
              rw [← hd]; congr 1; omega
            cases hbc : isBlank c
            · cases hbd : isBlank d
              · go_wp2_with (first
                  | ((with_reducible (go_at_call 30; refine (ref_blank _ c).mono ?_)); rintro e w' ⟨rfl, rfl⟩)
                  | ((with_reducible (go_at_call 30; refine (ref_blank _ d).mono ?_)); rintro e w' ⟨rfl, rfl⟩))
                go_ret
                exact ⟨by rw [HR.out, HE.out, hbc, hbd]; rfl, (Chg.refl NoB w).alloc _⟩
              · go_wp2_with (first
                  | ((with_reducible (go_at_call 30; refine (ref_blank _ c).mono ?_)); rintro e w' ⟨rfl, rfl⟩)
                  | ((with_reducible (go_at_call 30; refine (ref_blank _ d).mono ?_)); rintro e w' ⟨rfl, rfl⟩))
                go_ret
                exact ⟨by rw [HR.out, HE.out, hbc, hbd]; rfl, (Chg.refl NoB w).alloc _⟩
            · go_wp2_with (first
                | ((with_reducible (go_at_call 30; refine (ref_blank _ c).mono ?_)); rintro e w' ⟨rfl, rfl⟩)
                | ((with_reducible (go_at_call 30; refine (ref_blank _ d).mono ?_)); rintro e w' ⟨rfl, rfl⟩))
              go_ret
              exact ⟨by rw [HR.out, HE.out, hbc]; rfl, (Chg.refl NoB w).alloc _⟩

/-! Two rows of fields. -/
def eqF (x y : Fld) : Bool := x.name.toList == y.name.toList && x.body.toList == y.body.toList
def eqFlds : List Fld → List Fld → Bool
  | [], [] => true
  | x :: r, y :: s => eqF x y && eqFlds r s
  | _, _ => false
def fewN : List Fld → Nat → Nat → Bool
  | [], _, _ => true
  | x :: r, i, n => let m := n + 1 + min x.name.size 10000 + min x.body.size 10000
    if 100 ≤ i ∨ 8000 < m then false else fewN r (i + 1) m
def fewF (l : List Fld) : Bool := fewN l 0 0
theorem fewN_sized : ∀ (l : List Fld) (i n : Nat), n ≤ 8000 → i ≤ 100 → fewN l i n = true → (∀ x ∈ l, x.name.size ≤ 8000 ∧ x.body.size ≤ 8000) ∧ l.length + i ≤ 100
  | [], i, n, _, hi, _ => ⟨(fun _ h => by cases h), by simpa using hi⟩
  | x :: r, i, n, hn, hi, h => by
    unfold fewN at h
    simp only at h
    by_cases hc : 100 ≤ i ∨ 8000 < n + 1 + min x.name.size 10000 + min x.body.size 10000
    · rw [if_pos hc] at h; cases h
    · rw [if_neg hc] at h
      have ih := fewN_sized r (i + 1) _ (by omega) (by omega) h
      refine ⟨fun y hy => ?_, by have := ih.2; simp only [List.length_cons]; omega⟩
      rcases List.mem_cons.1 hy with rfl | hy
      · omega
      · exact ih.1 y hy
theorem fewF_sized {l : List Fld} (h : fewF l = true) : Sized l ∧ l.length ≤ 100 :=
  ⟨fun x hx => by have := (fewN_sized l 0 0 (by omega) (by omega) h).1 x hx; omega, (fewN_sized l 0 0 (by omega) (by omega) h).2⟩
theorem fld_beq (x y : Fld) : (x = y) ↔ x.name.toList = y.name.toList ∧ x.body.toList = y.body.toList := by
  rw [ByteArray.toList_eq, ByteArray.toList_eq, ByteArray.toList_eq, ByteArray.toList_eq]
  constructor
  · intro h; subst h; exact ⟨rfl, rfl⟩
  · rintro ⟨h1, h2⟩
    obtain ⟨⟨a⟩, ⟨b⟩⟩ := x
    obtain ⟨⟨c⟩, ⟨d⟩⟩ := y
    simp only [Array.toList_inj] at h1 h2
    subst h1; subst h2; rfl
theorem eqF_iff (x y : Fld) : eqF x y = true ↔ x = y := by
  rw [fld_beq]; simp [eqF]
theorem eqFlds_iff : ∀ l k : List Fld, eqFlds l k = true ↔ l = k
  | [], [] => by simp [eqFlds]
  | [], _ :: _ => by simp [eqFlds]
  | _ :: _, [] => by simp [eqFlds]
  | x :: r, y :: s => by simp [eqFlds, eqF_iff, eqFlds_iff r s]
theorem eqFlds_ne {l k : List Fld} {i : Nat} {x y : Fld} (hx : l[i]? = some x) (hy : k[i]? = some y) (h : eqF x y = false) : eqFlds l k = false := by
  rw [← Bool.not_eq_true, eqFlds_iff]
  intro e; subst e
  rw [hx] at hy; injection hy with hy; subst hy
  rw [(eqF_iff x x).2 rfl] at h; cases h
theorem eqFlds_len {l k : List Fld} (h : l.length ≠ k.length) : eqFlds l k = false := by
  rw [← Bool.not_eq_true, eqFlds_iff]
  intro e; subst e; exact h rfl
def EqTill (a b : List Fld) (i : Nat) : Prop := a.take i = b.take i
theorem EqTill.succ {a b : List Fld} {i : Nat} {x y : Fld} (h : EqTill a b i) (h1 : a[i]? = some x) (h2 : b[i]? = some y) (e : eqF x y = true) : EqTill a b (i + 1) := by
  unfold EqTill at *
  rw [List.take_add_one, List.take_add_one, h, h1, h2, (eqF_iff x y).1 e]
theorem fld_fields : ∃ f1 f2 : Field, (Tryd.prog.fieldsOf 38).toList = [f1, f2] ∧ f1.name = "Name" ∧ f2.name = "Body" ∧ f1.type = 9 ∧ f2.type = 9 ∧ f1.offset = 0 ∧ f2.offset = 1 :=
  ⟨_, _, rfl, rfl, rfl, rfl, rfl, rfl, rfl⟩
theorem run_neq_fld (w : World) (x y : Fld) : (binOp .neq 38 (.agg #[.string x.name, .string x.body]) (.agg #[.string y.name, .string y.body])).run Tryd.prog w = .ok (.bool (!eqF x y)) w := by
  obtain ⟨f1, f2, e, n1, n2, t1, t2, o1, o2⟩ := fld_fields
  rw [run_neq_struct, run_equalIn_agg _ _ _ _ _ rfl (by kernel_rfl), e]
  have k1 : (part 9 #[Value.string x.name, .string x.body] 0).run Tryd.prog w = .ok (.string x.name) w := rfl
  have k2 : (part 9 #[Value.string y.name, .string y.body] 0).run Tryd.prog w = .ok (.string y.name) w := rfl
  have k3 : (part 9 #[Value.string x.name, .string x.body] 1).run Tryd.prog w = .ok (.string x.body) w := rfl
  have k4 : (part 9 #[Value.string y.name, .string y.body] 1).run Tryd.prog w = .ok (.string y.body) w := rfl
  have q1 := run_equalIn_string w 9998 9 x.name y.name Tryd.underlying9
  have q2 := run_equalIn_string w 9998 9 x.body y.body Tryd.underlying9
  have c1 : ¬ "Name" = "_" := by decide
  have c2 : ¬ "Body" = "_" := by decide
  unfold eqF
  cases b1 : (x.name.toList == y.name.toList) <;> cases b2 : (x.body.toList == y.body.toList) <;> rw [b1] at q1 <;> rw [b2] at q2 <;>
    simp [Op.eqFields, n1, n2, t1, t2, o1, o2, c1, c2, k1, k2, k3, k4, q1, q2, Sem.run_bind, Result.andThen_ok]
set_option maxHeartbeats 400000 in
theorem ref_fields (w : World) (A B : Option Addr) (n m c d : Nat) (l k : List Fld) (h : FldsAt w A n l) (h' : FldsAt w B m k) (hn : n ≤ 1000000) (hm : m ≤ 1000000) :
    Calls Tryd.prog 21 #[.slice A n c, .slice B m d] w fun e w' => e = .returned (.bool (eqFlds l k)) ∧ Quiet w w' := by
  have HA := hid h
  have HB := hid h'
  clear h h'
  by_cases hs : n = m
  · have t0 : ((n : Int) != (m : Int)) = false := by rw [hs]; simp
    go_enter Tryd.func21, Tryd.ntmps21
    go_wp2
    go_loopw [5] (fun v wr => ∃ i : Nat, v = .int .i64 i ∧ i ≤ n ∧ Hid (EqTill l k i) ∧ Quiet w wr) (fun v _ => n - (intOf v).toNat)
    case atStart => exact ⟨0, rfl, Nat.zero_le _, hid rfl, Quiet.refl w⟩
    case round =>
      obtain ⟨i, rfl, h1, HN, HQ⟩ := hrel
      by_cases hlt : i < n
      · have t1 : decide ((i : Int) < (n : Int)) = true := decide_eq_true (by omega)
        have t2 : decide (i < n) = true := decide_eq_true hlt
        have i0 : (0 : Int) ≤ (i : Int) := by omega
        have i1 : (i : Int) < (n : Int) := by omega
        have i2 : (i : Int) < (m : Int) := by omega
        have hA := HA.out.keep (HQ.chg NoB)
        have hB := HB.out.keep (HQ.chg NoB)
        obtain ⟨b, o, rfl, hb, hc⟩ := hA.2 (by omega)
        obtain ⟨b', o', rfl, hb', hc'⟩ := hB.2 (by omega)
        obtain ⟨x, hx⟩ : ∃ x, l[i]? = some x := ⟨l[i]'(by rw [hA.1]; exact hlt), List.getElem?_eq_getElem _⟩
        obtain ⟨y, hy⟩ : ∃ y, k[i]? = some y := ⟨k[i]'(by rw [hB.1]; omega), List.getElem?_eq_getElem _⟩
        obtain ⟨k0, k1⟩ := hc i x hx
        obtain ⟨j0, j1⟩ := hc' i y hy
        have HX := hid hx
        have HY := hid hy
        clear hx hc hA hy hc' hB
        have hq := fun wx => run_neq_fld wx x y
        cases he : eqF x y
        · have HF : Hid (eqFlds l k = false) := hid (eqFlds_ne HX.out HY.out he)
          rw [he] at hq
          go_wp2_with fail
          go_quiet (fail)
          go_wp2
          go_ret
          exact ⟨by rw [HF.out]; rfl, HQ.drewN _⟩
        · rw [he] at hq
          go_wp2_with fail
          go_quiet (fail)
          go_wp2
          go_roundw
          case rel => exact ⟨i + 1, by go_num, by omega, hid (HN.out.succ HX.out HY.out he), HQ.drewN _⟩
          case measure => simp [intOf]; omega
      · have t1 : decide ((i : Int) < (n : Int)) = false := decide_eq_false (by omega)
        have t2 : decide (i < n) = false := decide_eq_false hlt
        have HG : Hid (eqFlds l k = true) := hid (by
          have := HN.out
          unfold EqTill at this
          rw [List.take_of_length_le (by have := HA.out.1; omega), List.take_of_length_le (by have := HB.out.1; omega)] at this
          exact (eqFlds_iff _ _).2 this)
        go_wp2
        go_ret
        exact ⟨by rw [HG.out]; rfl, HQ⟩
  · have t0 : ((n : Int) != (m : Int)) = true := by simp only [bne_iff_ne, ne_eq]; omega
    have HF : Hid (eqFlds l k = false) := hid (eqFlds_len (by have := HA.out.1; have := HB.out.1; omega))
    go_enter Tryd.func21, Tryd.ntmps21
    go_wp2
    go_ret
    exact ⟨by rw [HF.out]; rfl, Quiet.refl w⟩
end Go.Proofs.YtkphllolghlmeaaDoor
