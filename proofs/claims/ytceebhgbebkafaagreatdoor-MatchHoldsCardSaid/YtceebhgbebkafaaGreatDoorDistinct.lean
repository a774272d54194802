/- Distinct of the reference of chapter 23. No condition. -/
import Derived.Test.YtceebhgbebkafaaGreatDoorUnion
import Derived.Deep.DeepMust
import Derived.Deep.RegionWith
namespace Go.Proofs.YtceebhgbebkafaaGreatDoor
open Go.RowKit
set_option linter.unusedVariables false
set_option linter.unusedSimpArgs false

def DistPost (w : World) (ws : List ByteArray) (e : Ending) (w' : World) : Prop :=
  ∃ (A : Option Addr) (c : Nat) (ds : List ByteArray), e = .returned (.slice A ds.length c) ∧ ds.length ≤ c ∧ c ≤ maxLen ∧ Srt ds ∧ (∀ s, s ∈ ds ↔ s ∈ ws) ∧ ds.length ≤ ws.length ∧ Rd (w.heap.size ≤ ·) w' A (ds.map .string) ∧ w.grownBy w' none

/-- the same, and the row is the call's own -/
def DistOwn (w : World) (ws : List ByteArray) (e : Ending) (w' : World) : Prop :=
  ∃ (A : Option Addr) (c : Nat) (ds : List ByteArray), e = .returned (.slice A ds.length c) ∧ ds.length ≤ c ∧ c ≤ maxLen ∧ Srt ds ∧ (∀ s, s ∈ ds ↔ s ∈ ws) ∧ ds.length ≤ ws.length ∧ w'.ownsRow w.heap.size 9 1 (.slice A ds.length c) ds.length (ds.map .string) ∧ w.grownBy w' none
theorem DistOwn.post {w w' : World} {ws : List ByteArray} {e : Ending} (h : DistOwn w ws e w') : DistPost w ws e w' := by
  obtain ⟨A, c, ds, h1, h2, h3, h4, h5, h6, h7, h8⟩ := h
  exact ⟨A, c, ds, h1, h2, h3, h4, h5, h6, rd_own h7 (by decide), h8⟩
set_option maxHeartbeats 1000000 in
set_option maxRecDepth 100000 in
theorem distinct_own_any (k : Nat) : ∀ (A : Option Addr) (ws : List ByteArray) (n c : Nat) (w : World), n ≤ k → ws.length = n → Rd (fun _ => True) w A (ws.map .string) → n ≤ 1000000 → n ≤ c → c ≤ maxLen →
    Calls Tryz.prog 19 #[.slice A n c] w (DistOwn w ws) := by
  induction k with
  | zero =>
    intro A ws n c w hk hn h hl hc hcm
    obtain rfl : n = 0 := by omega
    obtain rfl : ws = [] := List.eq_nil_of_length_eq_zero hn
    clear h
    go_enter Tryz.func19, Tryz.ntmps19
    go_wp2_with (at_builtin; refine wpList_appendN rfl _ _ 40 rfl w.heap.size Tryz.underlying40 strInfo rfl (by decide) (v := .slice none 0 0) (by rfl) (World.ownsRow_nil _ _ _ _) A 0 c (by rfl) (Rd.nil (S := fun _ => True)) (by simp) (by simp) (by decide) (by omega) (Nat.le_refl _) ?_; intro v5 w5 hown5 hg5 hob5)
    obtain ⟨A5, c5, rfl, hc5, hm5, -, hr5⟩ := Rd.of_own hown5 (by decide)
    go_ret
    exact ⟨A5, c5, [], by simp, by simp, hm5, List.Pairwise.nil, by simp, by simp, by simpa using hown5, by simpa [Value.ownBlock] using hg5⟩
  | succ k ih =>
    intro A ws n c w hk hn h hl hc hcm
    have H := Lib.hid h
    have HN := Lib.hid hn
    have IH := Lib.hid ih
    unfold maxLen at hcm
    clear h ih hn
    by_cases h2 : n < 2
    · go_enter Tryz.func19, Tryz.ntmps19
      go_wp2_with (at_builtin; refine wpList_appendN rfl _ _ 40 rfl w.heap.size Tryz.underlying40 strInfo rfl (by decide) (v := .slice none 0 0) (by rfl) (World.ownsRow_nil _ _ _ _) A n c (by rfl) H.out (by have := HN.out; simp; omega) (by simp [Value.oneCell']) (by decide) (by omega) (Nat.le_refl _) ?_; intro v5 w5 hown5 hg5 hob5)
      obtain ⟨A5, c5, rfl, hc5, hm5, -, hr5⟩ := Rd.of_own hown5 (by decide)
      have HR5 := Lib.hid hown5
      clear hown5 hob5 hr5
      go_ret
      have e := HN.out
      refine ⟨A5, c5, ws, by rw [e]; simp, by rw [e]; omega, hm5, ?_, fun _ => Iff.rfl, Nat.le_refl _, by rw [e]; simpa using HR5.out, by simpa [Value.ownBlock] using hg5⟩
      match ws, e with
      | [], _ => exact List.Pairwise.nil
      | [x], _ => exact List.pairwise_singleton _ _
      | x :: y :: l, e => exfalso; simp at e; omega
    · have h0 : (0 : Int) ≤ (n : Int) / 2 := by omega
      have h1 : (n : Int) / 2 ≤ (n : Int) := by omega
      have hd2 : decide ((n : Int) < 2) = false := by simp; omega
      go_enter Tryz.func19, Tryz.ntmps19
      go_wp2_with fail
      have HT : Hid (Rd (fun _ => True) w A ((ws.take (n / 2)).map .string)) := by
        have := H.out.take (n / 2)
        rwa [← List.map_take] at this
      have HD : Hid (Rd (fun _ => True) w (Option.map (fun x => x.add (n / 2)) A) ((ws.drop (n / 2)).map .string)) := by
        have := H.out.drop (n / 2)
        rwa [← List.map_drop] at this
      go_region_with (first
        | (have tk := HR6; go_at_call 44; go_must (refine (union_own A5 A6 d5 d6 c5 c6 _ (S := fun _ => True) (by exact ((rd_own HR5.out (by decide)).grown hg6 (by simp)).mono (fun _ _ _ => trivial)) (by exact (rd_own HR6.out (by decide)).mono (fun _ _ _ => trivial)) (by have := HN.out; simp at hl5; omega) (by have := HN.out; simp at hl6; omega)).mono ?_); rintro e w7 ⟨A7, c7, x7, y7, rfl, hc7, hm7, hr7, hg7⟩)
        | (have tk := HR5; go_at_call 19; go_must (refine (IH.out (Option.map (fun x => x.add (n / 2)) A) (ws.drop (n / 2)) (n - n / 2) (c - n / 2) _ (by omega) (by have := HN.out; simp; omega) (by exact (HD.out.drewN 1).grown hg5 (by simp)) (by omega) (by omega) (by unfold maxLen; omega)).mono ?_); rintro e w6 ⟨A6, c6, d6, rfl, hc6, hm6, hs6, he6, hl6, hr6, hg6⟩; have HR6 := Lib.hid hr6; have HE6 := Lib.hid he6; clear hr6 he6 tk)
        | (go_at_call 19; go_must (refine (IH.out A (ws.take (n / 2)) (n / 2) c _ (by omega) (by have := HN.out; simp; omega) (by exact HT.out.drewN 1) (by omega) (by omega) (by unfold maxLen; omega)).mono ?_); rintro e w5 ⟨A5, c5, d5, rfl, hc5, hm5, hs5, he5, hl5, hr5, hg5⟩; have HR5 := Lib.hid hr5; have HE5 := Lib.hid he5; clear hr5 he5))
      have HR7 := Lib.hid hr7
      clear hr7
      go_wp2_with fail
      go_ret
      refine ⟨A7, c7, un d5 d6, rfl, hc7, hm7, un_srt _ _ hs5 hs6, fun s => ?_, ?_, own_dn HR7.out ?_, only_trans (only_trans (only_trans (only_drew (only_refl _ _)) hg5) hg6) hg7⟩
      · rw [un_mem, HE5.out, HE6.out]
        constructor
        · rintro (h | h)
          · exact List.mem_of_mem_take h
          · exact List.mem_of_mem_drop h
        · intro h
          rw [← List.take_append_drop (n / 2) ws] at h
          exact List.mem_append.1 h
      · have := un_len d5 d6
        have := HN.out
        simp at hl5 hl6
        omega
      · have h5 := hg5.size
        have h6 := hg6.size
        have h8 : w.drew.heap.size = w.heap.size := rfl
        omega
theorem distinct_any (k : Nat) (A : Option Addr) (ws : List ByteArray) (n c : Nat) (w : World) (h1 : n ≤ k) (h2 : ws.length = n) (h3 : Rd (fun _ => True) w A (ws.map .string)) (h4 : n ≤ 1000000) (h5 : n ≤ c) (h6 : c ≤ maxLen) :
    Calls Tryz.prog 19 #[.slice A n c] w (DistPost w ws) := (distinct_own_any k A ws n c w h1 h2 h3 h4 h5 h6).mono fun _ _ h => h.post
theorem distinct_post {S : Nat → Prop} (A : Option Addr) (ws : List ByteArray) (c : Nat) (w : World) (h : Rd S w A (ws.map .string)) (hl : ws.length ≤ 1000000) (hc : ws.length ≤ c) (hm : c ≤ maxLen) :
    Calls Tryz.prog 19 #[.slice A ws.length c] w (DistPost w ws) :=
  distinct_any ws.length A ws ws.length c w (Nat.le_refl _) rfl (h.mono (fun _ _ _ => trivial)) hl hc hm
theorem distinct_own {S : Nat → Prop} (A : Option Addr) (ws : List ByteArray) (c : Nat) (w : World) (h : Rd S w A (ws.map .string)) (hl : ws.length ≤ 1000000) (hc : ws.length ≤ c) (hm : c ≤ maxLen) :
    Calls Tryz.prog 19 #[.slice A ws.length c] w (DistOwn w ws) :=
  distinct_own_any ws.length A ws ws.length c w (Nat.le_refl _) rfl (h.mono (fun _ _ _ => trivial)) hl hc hm
end Go.Proofs.YtceebhgbebkafaaGreatDoor
