/- The laws on machines: which acts are looked at; an act. -/
import Derived.Test.YtphkmhajjnnbaaaSimW
namespace Go.Proofs.Ytphkmhajjnnbaaa
open Go.RowKit Go.Maps Go.WideMaps
attribute [local go_sem] bs_toList bs_size

/-- A bool is answered; true only if so; the world does not turn. -/
def Tells (Q : Prop) (w : World) (e : Ending) (w' : World) : Prop := ∃ b, e = .returned (.bool b) ∧ (b = true → Q) ∧ w = w'
theorem tells_no {Q : Prop} {w : World} {e : Ending} (h : e = .returned (.bool false)) : Tells Q w e w := ⟨false, h, (fun h => by cases h), rfl⟩
theorem tells_yes {Q : Prop} {w : World} {e : Ending} (h : e = .returned (.bool true)) (q : Q) : Tells Q w e w := ⟨true, h, fun _ => q, rfl⟩

set_option maxRecDepth 100000 in
set_option maxHeartbeats 1000000 in
theorem few_any {w : World} {v : Value} {l : List ActD} (h : ActsAt w v l) :
    Calls Try.prog 10 #[v] w (Tells (l.length ≤ 40 ∧ ∀ a ∈ l, a.small) w) := by
  obtain ⟨sa, sc, rfl, hl, hx⟩ := h
  unfold maxLen at hl
  generalize hn : l.length = n at *
  have HN := Lib.hid hn
  clear hn
  go_enter Try.func10, Try.ntmps10
  go_wp2_with fail
  go_loop [3] (fun i => ∃ j : Nat, j ≤ n ∧ i = .int .i64 (j : Int) ∧ ∀ a ∈ l.take j, a.small) (fun i => n - (intOf i).toNat)
  case atStart => exact ⟨0, Nat.zero_le _, rfl, by simp⟩
  case round =>
    obtain ⟨j, hj, rfl, hs⟩ := hrel
    have HS := Lib.hid hs
    clear hs
    by_cases hc : j < n ∧ j ≤ 40
    · obtain ⟨hjn, hj40⟩ := hc
      have hjl : j < l.length := by rw [HN.out]; exact hjn
      obtain ⟨b, o, kv, rfl, ha⟩ := hx j l[j] (List.getElem?_eq_getElem hjl)
      obtain ⟨ka, kc, rfl, hk1, hk2⟩ := ha.keep
      have d1 := ha.cA
      have d2 := ha.cB
      have d4 := ha.cP
      have hbA := ha.la
      have hbB := ha.lb
      unfold maxLen at hbA hbB hk1
      have hta : l.take (j + 1) = l.take j ++ [l[j]] := by rw [List.take_succ_eq_append_getElem hjl]
      have HT := Lib.hid hta
      clear hta hx hk2 ha
      have hsm : ActD.small l[j] ↔ l[j].A.length ≤ 60 ∧ l[j].B.length ≤ 300 ∧ l[j].Keep.length ≤ 20 := Iff.rfl
      have HSM := Lib.hid hsm
      clear hsm
      generalize l[j] = a at *
      generalize hA : a.A = lA at *
      generalize hB : a.B = lB at *
      generalize hK : a.Keep.length = nK at *
      clear hA hB hK hjl
      have o1 : o + j * 5 + 1 = o + j * 5 + 1 := rfl
      rcases (show (60 < (lA.length : Int)) ∨ (lA.length : Int) ≤ 60 by omega) with hA | hA
      · go_wp2
        go_ret
        exact tells_no rfl
      · rcases (show (300 < (lB.length : Int)) ∨ (lB.length : Int) ≤ 300 by omega) with hB | hB
        · go_wp2
          go_ret
          exact tells_no rfl
        · rcases (show (20 < (nK : Int)) ∨ (nK : Int) ≤ 20 by omega) with hK | hK
          · go_wp2
            go_ret
            exact tells_no rfl
          · go_wp2
            go_round
            case rel => exact ⟨j + 1, by omega, by go_num, by
              rw [HT.out]
              intro x hx
              rcases List.mem_append.1 hx with hx | hx
              · exact HS.out x hx
              · simp at hx
                subst hx
                exact HSM.out.2 ⟨by omega, by omega, by omega⟩⟩
            case measure => simp [intOf]; omega
    · rcases (show (j < n ∧ 40 < j) ∨ n ≤ j by omega) with ⟨h1, h2⟩ | h1
      · have h3 : ¬ ((n : Int) ≤ 40) := by omega
        have h4 : (40 : Int) < (n : Int) := by omega
        have h5 : (40 : Int) < (j : Int) := by omega
        go_wp2
        go_ret
        refine tells_no ?_
        first | rfl | simp [h3]
      · obtain rfl : j = n := by omega
        rcases (show (j : Int) ≤ 40 ∨ 40 < (j : Int) by omega) with h2 | h2
        · go_wp2
          go_ret
          refine tells_yes ?_ ⟨by omega, fun a ha => HS.out a (by rw [List.take_of_length_le (by rw [HN.out]; omega)]; exact ha)⟩
          first | rfl | simp [h2]
        · go_wp2
          go_ret
          refine tells_no ?_
          first | rfl | (simp; omega)
end Go.Proofs.Ytphkmhajjnnbaaa
