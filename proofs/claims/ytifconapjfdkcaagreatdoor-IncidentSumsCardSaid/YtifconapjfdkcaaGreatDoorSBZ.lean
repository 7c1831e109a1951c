/-
  Joined texts: CrewFind; IncValidate; IncOrder; Sorts; IncSort; IncOrder2; ApplyMem; ApplyPlain2; KeepX; Law40Plain; Apply; DataAt; DataTTMem; ProbMem; DataTT; Contract. What each proves stands ahead of it, with its conditions.
-/
import Derived.Test.YtifconapjfdkcaaGreatDoorSBM
import Derived.Test.YtifconapjfdkcaaGreatDoorSBY
import Derived.Test.YtifconapjfdkcaaGreatDoorSBL
import Derived.Test.YtifconapjfdkcaaGreatDoorSBW
import Derived.Test.YtifconapjfdkcaaGreatDoorSAR
import Derived.Test.YtifconapjfdkcaaGreatDoorSAZ
import Derived.Test.YtifconapjfdkcaaGreatDoorSBT
import Derived.Deep.QuietTactic
import Derived.StillTailTactics
import Derived.Lib.Bytealg
import Derived.Ground.SlsfProg
import Derived.Shelf.SlSortCmp.Insertion
import Derived.Test.YtifconapjfdkcaaGreatDoorProg
import Derived.Sort.OwnSortedInts
import Derived.Sort.WalkA
import Derived.Deep.OwnRows
import Derived.Test.YtifconapjfdkcaaGreatDoorSAY
import Derived.Test.YtifconapjfdkcaaGreatDoorSAF
import Derived.Test.YtifconapjfdkcaaGreatDoorSAI
import Derived.Maps.AppendAt
import Derived.Test.YtifconapjfdkcaaGreatDoorSBV
import Derived.Test.YtifconapjfdkcaaGreatDoorSAA
import Derived.Deep.AppendLies
import Derived.Deep.RegionLaw
import Derived.Test.YtifconapjfdkcaaGreatDoorSAK
import Derived.BigQuiet
import Derived.Test.YtifconapjfdkcaaGreatDoorSAN
import Derived.Test.YtifconapjfdkcaaGreatDoorSBB
import Derived.Deep.CutBlock
import Derived.Deep.DeepCutAuto
import Derived.Laws.Tables
/-
  Contract of crew.Find.
  Condition: the persons' lists are short.
-/
namespace Go.Proofs.YtifconapjfdkcaaGreatDoor
set_option linter.unusedSimpArgs false
set_option linter.unusedVariables false
open Go.RowKit

def FindPost (x : Int) (w : World) (e : Ending) (w' : World) : Prop := ∃ (i1 : Int) (s1 s2 : ByteArray) (i2 i3 : Int) (A1 A2 : Option Addr) (n1 c1 n2 c2 : Nat), e = .returned (.tuple #[.agg #[.int .i64 i1, .string s1, .string s2, .int .i64 i2, .int .i64 i3, .slice A1 n1 c1, .slice A2 n2 c2], .int .i64 x]) ∧ Below w.heap.size w w'
theorem crew_lists {t : GTT} {l : List GPerson} (h : crewE t l = 0) : l.length ≤ 64 ∧ ∀ k, k < l.length → (l.getD k noPerson).types.length ≤ 8 ∧ (l.getD k noPerson).vacs.length ≤ 8 := by
  unfold crewE at h
  split at h
  · rename_i h0; exact absurd h h0
  split at h
  · exact absurd h (by decide)
  rename_i hl
  refine ⟨by omega, fun k hk => ?_⟩
  have hz : pErr (aCodes t.airports) l k = 0 := by
    have : zeroTo (pErr (aCodes t.airports) l) l.length := by
      intro j
      induction j using Nat.strongRecOn with
      | ind j ih =>
        intro hj
        by_cases h0 : pErr (aCodes t.airports) l j = 0
        · exact h0
        · have := firstErr_hit (f := pErr (aCodes t.airports) l) (k := j) (fun i hi => ih i hi (by omega)) h0 hj
          rw [this] at h
          exact h
    exact this k hk
  unfold pErr at hz
  split at hz; · exact absurd hz (by decide)
  split at hz; · exact absurd hz (by decide)
  split at hz; · exact absurd hz (by decide)
  split at hz; · exact absurd hz (by decide)
  split at hz; · exact absurd hz (by decide)
  split at hz; · exact absurd hz (by decide)
  split at hz; · exact absurd hz (by decide)
  omega
theorem hasI_ids (l : List GPerson) (id : Int) : hasI (pIds l) id = true ↔ ∃ k, k < l.length ∧ (l.getD k noPerson).id = id := by
  unfold hasI pIds
  rw [List.any_eq_true]
  constructor
  · rintro ⟨x, hx, hd⟩
    obtain ⟨p, hp, rfl⟩ := List.mem_map.1 hx
    obtain ⟨k, hk, rfl⟩ := List.getElem_of_mem hp
    refine ⟨k, hk, ?_⟩
    rw [List.getD_eq_getElem?_getD, List.getElem?_eq_getElem hk]
    exact (of_decide_eq_true hd).symm
  · rintro ⟨k, hk, rfl⟩
    exact ⟨_, List.mem_map.2 ⟨_, getD_in hk noPerson, rfl⟩, by simp⟩
set_option maxRecDepth 100000 in
set_option maxHeartbeats 800000 in
theorem crewFind_any (l : List GPerson) (A : Option Addr) (n c : Nat) (id : Int) (w : World) (hs : Sl Ty.person w (all_ w) A n c l) (hl : ∀ k, k < l.length → (l.getD k noPerson).types.length ≤ 8 ∧ (l.getD k noPerson).vacs.length ≤ 8) :
    Calls Tryz.prog 37 #[.slice A n c, .int .i64 id] w (FindPost (if hasI (pIds l) id = true then 0 else 6) w) := by
  have hn1 : n ≤ l.length := Nat.le_of_eq hs.len
  have hn2 : l.length ≤ n := Nat.le_of_eq hs.len.symm
  have hle := hs.le
  unfold maxLen at hle
  have HS : Hid (∀ V, Below w.heap.size w V → Sl Ty.person V (all_ V) A n c l) := fun V hV => hs.next hV
  have HL := Lib.hid hl
  have HB0 : Hid (∀ o, Below w.heap.size w (w.alloc o)) := fun o => (Below.refl _ _).alloc (Nat.le_refl _) o
  have HR0 : Hid (∀ o, (w.alloc o).heap[w.heap.size]? = some o) := fun o => heap_alloc_new _ _
  clear hs hl
  have HR : Hid ((∀ k, k < l.length → (l.getD k noPerson).id = id → (if hasI (pIds l) id = true then (0 : Int) else 6) = 0) ∧ ((∀ j, j < l.length → (l.getD j noPerson).id ≠ id) → (if hasI (pIds l) id = true then (0 : Int) else 6) = 6)) := by
    refine ⟨fun k hk he => if_pos ((hasI_ids l id).2 ⟨k, hk, he⟩), fun h => if_neg fun h2 => ?_⟩
    obtain ⟨k, hk, he⟩ := (hasI_ids l id).1 h2
    exact h k hk he
  generalize (if hasI (pIds l) id = true then (0 : Int) else 6) = rr at *
  go_enter Tryz.func37, Tryz.ntmps37
  go_wp2_with fail
  go_loopw [10] (fun s wr => ∃ k : Nat, k ≤ n ∧ s = .int .i64 k ∧ Below w.heap.size w wr ∧ w.heap.size < wr.heap.size ∧ wr.heap[w.heap.size]? = some (.cells #[.int .i64 0, .string ⟨#[]⟩, .string ⟨#[]⟩, .int .i64 0, .int .i64 0, .slice none 0 0, .slice none 0 0] 75 (0, 0)) ∧ Hid (∀ j, j < k → (l.getD j noPerson).id ≠ id)) (fun s _ => n - (intOf s).toNat)
  case atStart => exact ⟨0, Nat.zero_le _, rfl, HB0.out _, by simp, HR0.out _, fun j hj => absurd hj (by omega)⟩
  case round =>
    obtain ⟨k, hk, rfl, hbr, hsz, hr, HK⟩ := hrel
    by_cases hlt : k < n
    · have hks : k < l.length := by omega
      obtain ⟨b, o, A1, m1, d1, A2, m2, d2, rfl, hbS, hat, hs1, hs2⟩ := (HS.out wr hbr).person_at hks
      have HLK := Lib.hid (HL.out k hks)
      have HID := Lib.hid (HR.out.1 k hks)
      have z0 := hat 0 _ rfl; rw [Nat.add_zero] at z0; have z1 := hat 1 _ rfl; have z2 := hat 2 _ rfl; have z3 := hat 3 _ rfl; have z4 := hat 4 _ rfl; have z5 := hat 5 _ rfl; have z6 := hat 6 _ rfl
      have HNX : Hid ((l.getD k noPerson).id ≠ id → ∀ j, j < k + 1 → (l.getD j noPerson).id ≠ id) := fun h j hj => by
        rcases Nat.lt_or_eq_of_le (Nat.le_of_lt_succ hj) with h1 | rfl
        · exact HK.out j h1
        · exact h
      have HS1 := Lib.hid hs1; have HS2 := Lib.hid hs2
      clear hs1 hs2 hat
      generalize l.getD k noPerson = p at *
      obtain ⟨pid, pname, pbase, prank, psen, ptypes, pvacs⟩ := p
      simp only at z0 z1 z2 z3 z4 HLK HS1 HS2 HID HNX
      have HB1 : Hid (∀ o, Below wr.heap.size wr (wr.alloc o)) := fun o => (Below.refl _ _).alloc (Nat.le_refl _) o
      by_cases he : pid = id
      case neg =>
        have he' : (pid == id) = false := by simpa using he
        have HM := Lib.hid (HNX.out he)
        clear he HNX HID
        have hr2 : ∀ o, (wr.alloc o).heap[w.heap.size]? = some (.cells #[.int .i64 0, .string ⟨#[]⟩, .string ⟨#[]⟩, .int .i64 0, .int .i64 0, .slice none 0 0, .slice none 0 0] 75 (0, 0)) := fun o => (Below.heap_alloc _ _ _ hsz).trans hr
        have HR2 := Lib.hid hr2
        clear hr hr2
        go_wp2_with fail
        go_roundw
        case rel => exact ⟨k + 1, by omega, by go_num, hbr.trans ((HB1.out _).mono hbr.size), by simp; omega, HR2.out _, HM⟩
        case measure => simp [intOf]; omega
      case pos =>
        have he' : (pid == id) = true := by simpa using he
        have HF := Lib.hid (HID.out he)
        subst he
        clear HNX HID
        have HC1 := Lib.hid (cloneStr_any A1 m1 d1 ptypes (wr.alloc (.cells #[.int .i64 pid, .string pname, .string pbase, .int .i64 prank, .int .i64 psen, .slice A1 m1 d1, .slice A2 m2 d2] 75)) (HS1.out.next (HB1.out _)) (by have := HLK.out.1; omega))
        go_wp2_with fail
        refine HC1.out.mono ?_
        rintro e w1 ⟨v1, rfl, ho1, hb1⟩
        obtain ⟨B1, e1, rfl, -⟩ := ho1.sl
        generalize ptypes.length = m1' at *
        have hz1 := hb1.size
        simp only [World.size_alloc] at hz1
        have k7 : w1.heap[wr.heap.size]? = _ := (hb1.block _ (by simp)).trans (heap_alloc_new _ _)
        have kr : w1.heap[w.heap.size]? = _ := (hb1.block _ (by simp; omega)).trans ((Below.heap_alloc _ _ _ hsz).trans hr)
        have k8 := heap_setCell_same w1 wr.heap.size 5 _ _ (.slice B1 m1' e1) k7
        have kr8 : (w1.setCell ⟨wr.heap.size, 5, none⟩ (.slice B1 m1' e1)).heap[w.heap.size]? = _ := (heap_setCell_other w1 ⟨wr.heap.size, 5, none⟩ _ _ (show w.heap.size ≠ wr.heap.size by omega)).trans kr
        have hb8 : Below wr.heap.size wr (w1.setCell ⟨wr.heap.size, 5, none⟩ (.slice B1 m1' e1)) := ((HB1.out _).trans (hb1.mono (by simp))).setCell (Nat.le_refl _) _
        have y0 := block_cell k7 0; have y1 := block_cell k7 1; have y2 := block_cell k7 2; have y3 := block_cell k7 3; have y4 := block_cell k7 4; have y5 := block_cell k7 5; have y6 := block_cell k7 6
        have f5 := block_free k7 5
        have hz8 : (w1.setCell ⟨wr.heap.size, 5, none⟩ (.slice B1 m1' e1)).heap.size = w1.heap.size := by simp
        have HC2 := Lib.hid (cloneSpan_any A2 m2 d2 pvacs (w1.setCell ⟨wr.heap.size, 5, none⟩ (.slice B1 m1' e1)) (HS2.out.next hb8) (by have := HLK.out.2; omega))
        have K8 := Lib.hid k8; have KR8 := Lib.hid kr8; have HB8 := Lib.hid hb8; have HZ8 := Lib.hid hz8
        clear k7 kr k8 kr8 hb8 HC1 ho1 hb1 hr z0 z1 z2 z3 z4 z5 z6 hz8
        go_wp2_with fail
        refine HC2.out.mono ?_
        clear HC2 y0 y1 y2 y3 y4 y5 y6 f5
        rintro e w2 ⟨v2, rfl, ho2, hb2⟩
        obtain ⟨B2, e2, rfl, -⟩ := ho2.sl
        generalize pvacs.length = m2' at *
        have hz2 := hb2.size
        have j7 : w2.heap[wr.heap.size]? = _ := (hb2.block _ (by have := HZ8.out; omega)).trans K8.out
        have jr : w2.heap[w.heap.size]? = _ := (hb2.block _ (by have := HZ8.out; omega)).trans KR8.out
        have HBE : Hid (Below w.heap.size w w2) := hbr.trans ((HB8.out.trans (hb2.mono (by have := HZ8.out; omega))).mono hbr.size)
        have y0 := block_cell j7 0; have y1 := block_cell j7 1; have y2 := block_cell j7 2; have y3 := block_cell j7 3; have y4 := block_cell j7 4; have y5 := block_cell j7 5; have y6 := block_cell j7 6
        have f6 := block_free j7 6
        have x0 := block_free jr 0; have x1 := block_free jr 1; have x2 := block_free jr 2; have x3 := block_free jr 3; have x4 := block_free jr 4; have x5 := block_free jr 5; have x6 := block_free jr 6
        have u0 := block_cell jr 0; have u1 := block_cell jr 1; have u2 := block_cell jr 2; have u3 := block_cell jr 3; have u4 := block_cell jr 4; have u5 := block_cell jr 5; have u6 := block_cell jr 6
        have hne : w.heap.size ≠ wr.heap.size := by omega
        have hne' : wr.heap.size ≠ w.heap.size := by omega
        clear j7 jr K8 KR8 HB8 HZ8 ho2 hb2
        go_wp2_with fail
        refine bodyPost_ret (v := .tuple #[.agg #[.int .i64 pid, .string pname, .string pbase, .int .i64 prank, .int .i64 psen, .slice B1 m1' e1, .slice B2 m2' e2], .int .i64 0]) (by simp [results, Tryz.results37, go_sem, u0, u1, u2, u3, u4, u5, u6]) rfl ?_
        rw [HF.out]
        exact ⟨_, _, _, _, _, _, _, _, _, _, _, rfl, (((((((HBE.out.setCell (by simp; omega) _).setCell (Nat.le_refl _) _).setCell (Nat.le_refl _) _).setCell (Nat.le_refl _) _).setCell (Nat.le_refl _) _).setCell (Nat.le_refl _) _).setCell (Nat.le_refl _) _).setCell (Nat.le_refl _) _⟩
    · have HF := Lib.hid (HR.out.2 fun j hj => HK.out j (by omega))
      have u0 := block_cell hr 0; have u1 := block_cell hr 1; have u2 := block_cell hr 2; have u3 := block_cell hr 3; have u4 := block_cell hr 4; have u5 := block_cell hr 5; have u6 := block_cell hr 6
      have x0 := block_free hr 0; have x1 := block_free hr 1; have x2 := block_free hr 2; have x3 := block_free hr 3; have x4 := block_free hr 4; have x5 := block_free hr 5; have x6 := block_free hr 6
      clear hr
      go_wp2_with fail
      refine bodyPost_ret (v := .tuple #[.agg #[.int .i64 0, .string ⟨#[]⟩, .string ⟨#[]⟩, .int .i64 0, .int .i64 0, .slice none 0 0, .slice none 0 0], .int .i64 6]) (by simp [results, Tryz.results37, go_sem, u0, u1, u2, u3, u4, u5, u6]) rfl ?_
      rw [HF.out]
      exact ⟨_, _, _, _, _, _, _, _, _, _, _, rfl, ((((((hbr.setCell (Nat.le_refl _) _).setCell (Nat.le_refl _) _).setCell (Nat.le_refl _) _).setCell (Nat.le_refl _) _).setCell (Nat.le_refl _) _).setCell (Nat.le_refl _) _).setCell (Nat.le_refl _) _⟩
end Go.Proofs.YtifconapjfdkcaaGreatDoor
/-
  Contract of incident.Validate.
  Condition: the timetable's, the persons' and the incidents' data are well formed.
-/
namespace Go.Proofs.YtifconapjfdkcaaGreatDoor
set_option linter.unusedSimpArgs false
set_option linter.unusedVariables false
open Go.RowKit

theorem incE_hit {t : GTT} {ps : List GPerson} {l : List GInc} (h0 : crewE t ps = 0) (h1 : l.length ≤ 32) {k : Nat} (hk : k < l.length) (hz : zeroTo (fun i => incE1 t ps (l.getD i noInc)) k) (hv : incE1 t ps (l.getD k noInc) ≠ 0) : incE t ps l = incE1 t ps (l.getD k noInc) := by
  unfold incE
  rw [if_neg (by rw [h0]; simp), if_neg (by omega)]
  exact firstErr_hit (f := fun i => incE1 t ps (l.getD i noInc)) hz hv hk
theorem incE_none {t : GTT} {ps : List GPerson} {l : List GInc} (h0 : crewE t ps = 0) (h1 : l.length ≤ 32) (hz : zeroTo (fun i => incE1 t ps (l.getD i noInc)) l.length) : incE t ps l = 0 := by
  unfold incE
  rw [if_neg (by rw [h0]; simp), if_neg (by omega)]
  exact firstErr_none hz
set_option maxRecDepth 100000 in
set_option maxHeartbeats 3200000 in
theorem incValidate_any (t : GTT) (ps : List GPerson) (l : List GInc) (A1 A2 A3 A4 A5 : Option Addr) (n1 n2 n3 n4 n5 c1 c2 c3 c4 c5 : Nat) (w : World) (ht : t.ok) (hp : ∀ p ∈ ps, p.ok) (hs1 : Sl Ty.zone w (all_ w) A1 n1 c1 t.zones) (hs2 : Sl Ty.airport w (all_ w) A2 n2 c2 t.airports) (hs3 : Sl Ty.flight w (all_ w) A3 n3 c3 t.flights) (hs4 : Sl Ty.person w (all_ w) A4 n4 c4 ps) (hs5 : Sl Ty.inc w (all_ w) A5 n5 c5 l) :
    Calls Tryz.prog 16 #[.agg #[.slice A1 n1 c1, .slice A2 n2 c2, .slice A3 n3 c3], .slice A4 n4 c4, .slice A5 n5 c5] w (ErrPost (incE t ps l) w) := by
  have hn1 : n5 ≤ l.length := Nat.le_of_eq hs5.len
  have hn2 : l.length ≤ n5 := Nat.le_of_eq hs5.len.symm
  have hle := hs5.le
  unfold maxLen at hle
  have hb0 := (Below.refl w.heap.size w).alloc (Nat.le_refl _) (.cells #[.slice A1 n1 c1, .slice A2 n2 c2, .slice A3 n3 c3] 27)
  have hr0 := heap_alloc_new w (.cells #[.slice A1 n1 c1, .slice A2 n2 c2, .slice A3 n3 c3] 27)
  have hz0 : (w.alloc (.cells #[.slice A1 n1 c1, .slice A2 n2 c2, .slice A3 n3 c3] 27)).heap.size = w.heap.size + 1 := by simp
  have HV := Lib.hid (crewValidate_any t ps A1 A2 A3 A4 n1 n2 n3 n4 c1 c2 c3 c4 _ ht hp (hs1.next hb0) (hs2.next hb0) (hs3.next hb0) (hs4.next hb0))
  have HS2 : Hid (∀ V, Below w.heap.size w V → Sl Ty.airport V (all_ V) A2 n2 c2 t.airports) := fun V hV => hs2.next hV
  have HS3 : Hid (∀ V, Below w.heap.size w V → Sl Ty.flight V (all_ V) A3 n3 c3 t.flights) := fun V hV => hs3.next hV
  have HS4 : Hid (∀ V, Below w.heap.size w V → Sl Ty.person V (all_ V) A4 n4 c4 ps) := fun V hV => hs4.next hV
  have HS5 : Hid (∀ V, Below w.heap.size w V → Sl Ty.inc V (all_ w) A5 n5 c5 l) := fun V hV => hs5.keep (all_keep hV)
  have HB0 := Lib.hid hb0; have HR0 := Lib.hid hr0; have HZ0 := Lib.hid hz0
  have HLL := Lib.hid (fun h : crewE t ps = 0 => (crew_lists h).2)
  have HR : Hid ((crewE t ps ≠ 0 → incE t ps l = crewE t ps) ∧ (crewE t ps = 0 → 32 < l.length → incE t ps l = 10) ∧
      (crewE t ps = 0 → l.length ≤ 32 → ∀ k, k < l.length → zeroTo (fun i => incE1 t ps (l.getD i noInc)) k → incE1 t ps (l.getD k noInc) ≠ 0 → incE t ps l = incE1 t ps (l.getD k noInc)) ∧
      (crewE t ps = 0 → l.length ≤ 32 → zeroTo (fun i => incE1 t ps (l.getD i noInc)) l.length → incE t ps l = 0)) :=
    ⟨fun h => by unfold incE; exact if_pos h, fun h h2 => by unfold incE; rw [if_neg (by rw [h]; simp), if_pos h2], fun h0 h1 k hk hz hv => incE_hit h0 h1 hk hz hv, fun h0 h1 hz => incE_none h0 h1 hz⟩
  clear hs1 hs2 hs3 hs4 hs5 hb0 hr0 hz0 ht hp
  generalize incE t ps l = res at *
  generalize hce : crewE t ps = ce at *
  go_enter Tryz.func16, Tryz.ntmps16
  go_wp2_with fail
  generalize w.alloc (.cells #[.slice A1 n1 c1, .slice A2 n2 c2, .slice A3 n3 c3] 27) = W at *
  refine HV.out.mono ?_
  clear HV
  rintro e w1 ⟨rfl, hb1⟩
  have hw1 : Below w.heap.size w w1 := HB0.out.trans (hb1.mono (by have := HZ0.out; omega))
  have HT1 : Hid (w1.heap[w.heap.size]? = some (.cells #[.slice A1 n1 c1, .slice A2 n2 c2, .slice A3 n3 c3] 27 (0, 0))) := (hb1.block _ (by have := HZ0.out; omega)).trans HR0.out
  have hsz1 : w.heap.size < w1.heap.size := by have := HZ0.out; have := hb1.size; omega
  have HW1 := Lib.hid hw1
  clear hb1 HB0 HR0 HZ0 hw1
  by_cases hc : ce = 0
  case neg =>
    have hc' : (ce != 0) = true := by simpa using hc
    have HF := Lib.hid (HR.out.1 hc)
    clear hc
    go_wp2_with fail
    go_ret
    exact ⟨by rw [HF.out]; rfl, HW1.out⟩
  have hc' : (ce != 0) = false := by simpa using hc
  have HR2 : Hid _ := HR.out.2.1 hc
  have HR3 : Hid _ := HR.out.2.2.1 hc
  have HR4 : Hid _ := HR.out.2.2.2 hc
  have HL2 := Lib.hid (HLL.out hc)
  subst hc
  clear HR HLL
  by_cases hlen : 32 < n5
  · have HF := Lib.hid (HR2.out (by omega))
    go_wp2_with fail
    go_ret
    exact ⟨by rw [HF.out]; rfl, HW1.out⟩
  have HR3' : Hid _ := HR3.out (by omega)
  have HR4' : Hid _ := HR4.out (by omega)
  clear HR2 HR3 HR4
  go_wp2_with fail
  go_loopw [24] (fun s wr => ∃ k : Nat, k ≤ n5 ∧ s = .int .i64 k ∧ Below w.heap.size w wr ∧ w.heap.size < wr.heap.size ∧ Hid (wr.heap[w.heap.size]? = some (.cells #[.slice A1 n1 c1, .slice A2 n2 c2, .slice A3 n3 c3] 27 (0, 0))) ∧ Hid (zeroTo (fun i => incE1 t ps (l.getD i noInc)) k)) (fun s _ => n5 - (intOf s).toNat)
  case atStart => exact ⟨0, Nat.zero_le _, rfl, HW1.out, hsz1, HT1, zeroTo_zero _⟩
  case round =>
    obtain ⟨k, hk, rfl, hbr, hsz, HT, HK⟩ := hrel
    clear HW1 HT1 hsz1
    by_cases hlt : k < n5
    · have hks : k < l.length := by omega
      obtain ⟨b, o, rfl, hbS, hat⟩ := (HS5.out wr hbr).inc_at hks
      have HE : Hid (incE1 t ps (l.getD k noInc) ≠ 0 → res = incE1 t ps (l.getD k noInc)) := fun h => HR3'.out k hks HK.out h
      have HM : Hid (incE1 t ps (l.getD k noInc) = 0 → zeroTo (fun i => incE1 t ps (l.getD i noInc)) (k + 1)) := fun h => zeroTo_succ HK.out h
      have z0 := hat 0 _ rfl; rw [Nat.add_zero] at z0
      have z1 := hat 1 _ rfl; have z2 := hat 2 _ rfl; have z3 := hat 3 _ rfl; have z4 := hat 4 _ rfl; have z5 := hat 5 _ rfl; have z6 := hat 6 _ rfl
      clear hat HK
      generalize l.getD k noInc = x at *
      obtain ⟨kind, fl, mi, ai, pe, ⟨s1, s2⟩⟩ := x
      simp only at z0 z1 z2 z3 z4 z5 z6
      have hbx := (Below.refl wr.heap.size wr).alloc (Nat.le_refl _) (.cells #[.int .i64 kind, .int .i64 fl, .int .i64 mi, .string ai, .int .i64 pe, .int .i64 s1, .int .i64 s2] 59)
      have hrx := heap_alloc_new wr (.cells #[.int .i64 kind, .int .i64 fl, .int .i64 mi, .string ai, .int .i64 pe, .int .i64 s1, .int .i64 s2] 59)
      have hzx : (wr.alloc (.cells #[.int .i64 kind, .int .i64 fl, .int .i64 mi, .string ai, .int .i64 pe, .int .i64 s1, .int .i64 s2] 59)).heap.size = wr.heap.size + 1 := by simp
      have htx := (Below.heap_alloc wr (.cells #[.int .i64 kind, .int .i64 fl, .int .i64 mi, .string ai, .int .i64 pe, .int .i64 s1, .int .i64 s2] 59) _ hsz).trans HT.out
      have HBX := Lib.hid hbx; have HRX := Lib.hid hrx; have HZX := Lib.hid hzx; have HTX := Lib.hid htx
      have hwx : Below w.heap.size w (wr.alloc (.cells #[.int .i64 kind, .int .i64 fl, .int .i64 mi, .string ai, .int .i64 pe, .int .i64 s1, .int .i64 s2] 59)) := hbr.trans (hbx.mono hbr.size)
      have HWX := Lib.hid hwx
      clear hbx hrx hzx htx hwx
      go_wp2_with fail
      generalize wr.alloc (.cells #[.int .i64 kind, .int .i64 fl, .int .i64 mi, .string ai, .int .i64 pe, .int .i64 s1, .int .i64 s2] 59) = X at *
      have HXS : Hid (X.heap.size = wr.heap.size + 1) := HZX
      have HE5 : Hid (∀ v : Int, incE1 t ps ⟨kind, fl, mi, ai, pe, ⟨s1, s2⟩⟩ = v → v ≠ 0 → res = v) := fun v h1 h2 => by rw [← h1]; exact HE.out (by rw [h1]; exact h2)
      clear HE z0 z1 z2 z3 z4 z5 z6
      have y0 := block_cell HRX.out 0; have y1 := block_cell HRX.out 1; have y2 := block_cell HRX.out 2; have y3 := block_cell HRX.out 3; have y4 := block_cell HRX.out 4; have y5 := block_cell HRX.out 5; have y6 := block_cell HRX.out 6
      refine (incKnown_any kind X).mono ?_
      rintro e w9 ⟨rfl, hX⟩
      rw [hX]
      clear hX w9
      by_cases hkk : 1 ≤ kind ∧ kind ≤ 4
      case neg =>
        have HF : Hid (res = 5) := HE5.out 5 (by unfold incE1; exact if_pos (by show kind < 1 ∨ 4 < kind; omega)) (by decide)
        rw [decide_eq_false hkk]
        clear hkk
        go_wp2_with fail
        go_ret
        exact ⟨by rw [HF.out]; rfl, HWX.out⟩
      rw [decide_eq_true hkk]
      by_cases hk4 : kind = 4
      case pos =>
        subst hk4
        have HI : Hid (incE1 t ps ⟨4, fl, mi, ai, pe, ⟨s1, s2⟩⟩ = if hasI (pIds ps) pe = false then 6 else if vacOk ⟨s1, s2⟩ = false then 5 else if shapedI ⟨4, fl, mi, ai, pe, ⟨s1, s2⟩⟩ = false then 12 else 0) := by
          show _ = _
          unfold incE1
          rw [if_neg (show ¬ ((4 : Int) < 1 ∨ 4 < (4 : Int)) by decide), if_pos rfl]
        have HC := Lib.hid (crewFind_any ps A4 n4 c4 pe X (HS4.out X HWX.out) HL2.out)
        clear hkk
        rcases Bool.eq_false_or_eq_true (hasI (pIds ps) pe) with hh | hh
        case inr =>
          rw [hh, if_neg (by simp)] at HC
          rw [hh, if_pos rfl] at HI
          have HF : Hid (res = 6) := HE5.out 6 HI.out (by decide)
          clear hh
          go_wp2_with fail
          refine HC.out.mono ?_
          rintro e w2 ⟨i1, q1, q2, i2, i3, B1, B2, m1, d1, m2, d2, rfl, hb2⟩
          have HE2 : Hid (∀ o, Below w.heap.size w (w2.alloc o)) := fun o => (HWX.out.trans (hb2.mono (HWX.out.size))).alloc (by have := hb2.size; have := HXS.out; omega) o
          clear hb2 HC
          go_wp2_with fail
          go_ret
          exact ⟨by rw [HF.out]; rfl, HE2.out _⟩
        case inl =>
          rw [hh, if_pos rfl] at HC
          rw [hh, if_neg (by simp)] at HI
          clear hh
          go_wp2_with fail
          refine HC.out.mono ?_
          rintro e w2 ⟨i1, q1, q2, i2, i3, B1, B2, m1, d1, m2, d2, rfl, hb2⟩
          have hwo : w.heap.size ≤ w2.heap.size := by have := hb2.size; have := HXS.out; omega
          have HE2 : Hid (∀ o, Below w.heap.size w (w2.alloc o)) := fun o => (HWX.out.trans (hb2.mono (HWX.out.size))).alloc hwo o
          have HT2 : Hid (∀ o, (w2.alloc o).heap[w.heap.size]? = some (.cells #[.slice A1 n1 c1, .slice A2 n2 c2, .slice A3 n3 c3] 27 (0, 0))) := fun o => (Below.heap_alloc _ _ _ (by have := hb2.size; have := HXS.out; omega)).trans ((hb2.block _ (by have := HXS.out; omega)).trans HTX.out)
          have hx2 : ∀ o, (w2.alloc o).heap[wr.heap.size]? = some (.cells #[.int .i64 4, .int .i64 fl, .int .i64 mi, .string ai, .int .i64 pe, .int .i64 s1, .int .i64 s2] 59 (0, 0)) := fun o => (Below.heap_alloc _ _ _ (by have := hb2.size; have := HXS.out; omega)).trans ((hb2.block _ (by have := HXS.out; omega)).trans HRX.out)
          have HX2 := Lib.hid hx2
          have HZ2 : Hid (∀ o, w.heap.size < (w2.alloc o).heap.size) := fun o => by have := hb2.size; have := HXS.out; simp; omega
          clear hb2 HC y0 y1 y2 y3 y4 y5 y6 hx2
          generalize hob : Obj.cells #[.int .i64 i1, .string q1, .string q2, .int .i64 i2, .int .i64 i3, .slice B1 m1 d1, .slice B2 m2 d2] 75 = ob
          have he2 := HE2.out ob; have ht2 := HT2.out ob; have hx2 := HX2.out ob; have hz2 := HZ2.out ob
          clear HE2 HT2 HX2 HZ2
          generalize hV : w2.alloc ob = V at *
          subst hob
          have HE2 := Lib.hid he2; have HT2 := Lib.hid ht2; have HZ2 := Lib.hid hz2
          have y0 := block_cell hx2 0; have y1 := block_cell hx2 1; have y2 := block_cell hx2 2; have y3 := block_cell hx2 3; have y4 := block_cell hx2 4; have y5 := block_cell hx2 5; have y6 := block_cell hx2 6
          clear he2 ht2 hz2 hx2
          by_cases hv : s1 < 0 ∨ s2 ≤ s1 ∨ 52596000 < s2
          case pos =>
            have hvo : vacOk ⟨s1, s2⟩ = false := by
              unfold vacOk
              simp only [Bool.and_eq_false_iff, decide_eq_false_iff_not]
              omega
            rw [hvo, if_pos rfl] at HI
            have HF : Hid (res = 5) := HE5.out 5 HI.out (by decide)
            have hv' : s1 < 0 ∨ (¬ s1 < 0 ∧ s2 ≤ s1) ∨ (¬ s1 < 0 ∧ ¬ s2 ≤ s1 ∧ 52596000 < s2) := by omega
            clear hv hvo
            rcases hv' with h | ⟨h, h'⟩ | ⟨h, h', h''⟩
            all_goals
              go_wp2_with fail
              go_ret
              exact ⟨by rw [HF.out]; rfl, HE2.out⟩
          case neg =>
            have hvo : vacOk ⟨s1, s2⟩ = true := by
              unfold vacOk
              simp only [Bool.and_eq_true, decide_eq_true_eq]
              omega
            rw [hvo, if_neg (by simp)] at HI
            have h1 : ¬ s1 < 0 := by omega
            have h2 : ¬ s2 ≤ s1 := by omega
            have h3 : ¬ 52596000 < s2 := by omega
            have HSH := Lib.hid (shaped_any ⟨4, fl, mi, ai, pe, ⟨s1, s2⟩⟩ V ⟨show (1 : Int) ≤ 4 by decide, show (4 : Int) ≤ 4 by decide⟩)
            clear hv hvo
            go_wp2_with fail
            refine HSH.out.mono ?_
            clear HSH y0 y1 y2 y3 y4 y5 y6
            rintro e w3 ⟨rfl, hb3⟩
            have HE3 : Hid (Below w.heap.size w w3) := HE2.out.trans (hb3.mono HE2.out.size)
            rcases Bool.eq_false_or_eq_true (shapedI ⟨4, fl, mi, ai, pe, ⟨s1, s2⟩⟩) with hs | hs
            case inr =>
              rw [hs] at HI ⊢
              rw [if_pos rfl] at HI
              have HF : Hid (res = 12) := HE5.out 12 HI.out (by decide)
              clear hs
              go_wp2_with fail
              go_ret
              exact ⟨by rw [HF.out]; rfl, HE3.out⟩
            case inl =>
              rw [hs] at HI ⊢
              rw [if_neg (by simp)] at HI
              have HM2 := Lib.hid (HM.out HI.out)
              have HT3 : Hid (w3.heap[w.heap.size]? = _) := (hb3.block _ HZ2.out).trans HT2.out
              have hz3 : w.heap.size < w3.heap.size := by have := HZ2.out; have := hb3.size; omega
              clear hs hb3
              go_wp2_with fail
              go_roundw
              case rel => exact ⟨k + 1, by omega, by go_num, HE3.out, hz3, HT3, HM2⟩
              case measure => simp [intOf]; omega
      case neg =>
        have hk3 : 1 ≤ kind ∧ kind ≤ 3 := by omega
        have HI : Hid (incE1 t ps ⟨kind, fl, mi, ai, pe, ⟨s1, s2⟩⟩ = if flightIncE t ⟨kind, fl, mi, ai, pe, ⟨s1, s2⟩⟩ ≠ 0 then flightIncE t ⟨kind, fl, mi, ai, pe, ⟨s1, s2⟩⟩ else if shapedI ⟨kind, fl, mi, ai, pe, ⟨s1, s2⟩⟩ = false then 12 else 0) := by
          show _ = _
          unfold incE1
          rw [if_neg (show ¬ (kind < 1 ∨ 4 < kind) by omega), if_neg hk4]
        have hk4' : (kind == 4) = false := by simpa using hk4
        have HC := Lib.hid (incFlight_any t ⟨kind, fl, mi, ai, pe, ⟨s1, s2⟩⟩ A1 A2 A3 n1 n2 n3 c1 c2 c3 X (HS2.out X HWX.out) (HS3.out X HWX.out) hk3)
        have x0 := block_cell HTX.out 0; have x1 := block_cell HTX.out 1; have x2 := block_cell HTX.out 2
        generalize flightIncE t ⟨kind, fl, mi, ai, pe, ⟨s1, s2⟩⟩ = fe at *
        clear hk4
        go_wp2_with fail
        refine HC.out.mono ?_
        rintro e w2 ⟨rfl, hb2⟩
        have HE2 : Hid (Below w.heap.size w w2) := HWX.out.trans (hb2.mono HWX.out.size)
        by_cases hfe : fe = 0
        case neg =>
          have hfe' : (fe != 0) = true := by simpa using hfe
          rw [if_pos hfe] at HI
          have HF : Hid (res = fe) := HE5.out fe HI.out hfe
          clear hfe hb2 HC
          go_wp2_with fail
          go_ret
          exact ⟨by rw [HF.out]; rfl, HE2.out⟩
        have hfe' : (fe != 0) = false := by simpa using hfe
        rw [if_neg (by simpa using hfe)] at HI
        subst hfe
        have HSH := Lib.hid (shaped_any ⟨kind, fl, mi, ai, pe, ⟨s1, s2⟩⟩ w2 ⟨hkk.1, hkk.2⟩)
        have hx2 : w2.heap[wr.heap.size]? = _ := (hb2.block _ (by have := HXS.out; omega)).trans HRX.out
        have HT2 : Hid (w2.heap[w.heap.size]? = _) := (hb2.block _ (by have := HXS.out; omega)).trans HTX.out
        have hz2 : w.heap.size < w2.heap.size := by have := HXS.out; have := hb2.size; omega
        clear y0 y1 y2 y3 y4 y5 y6 x0 x1 x2 hb2 HC hkk hk3
        have y0 := block_cell hx2 0; have y1 := block_cell hx2 1; have y2 := block_cell hx2 2; have y3 := block_cell hx2 3; have y4 := block_cell hx2 4; have y5 := block_cell hx2 5; have y6 := block_cell hx2 6
        clear hx2
        go_wp2_with fail
        refine HSH.out.mono ?_
        clear HSH y0 y1 y2 y3 y4 y5 y6
        rintro e w3 ⟨rfl, hb3⟩
        have HE3 : Hid (Below w.heap.size w w3) := HE2.out.trans (hb3.mono HE2.out.size)
        rcases Bool.eq_false_or_eq_true (shapedI ⟨kind, fl, mi, ai, pe, ⟨s1, s2⟩⟩) with hs | hs
        case inr =>
          rw [hs] at HI ⊢
          rw [if_pos rfl] at HI
          have HF : Hid (res = 12) := HE5.out 12 HI.out (by decide)
          clear hs
          go_wp2_with fail
          go_ret
          exact ⟨by rw [HF.out]; rfl, HE3.out⟩
        case inl =>
          rw [hs] at HI ⊢
          rw [if_neg (by simp)] at HI
          have HM2 := Lib.hid (HM.out HI.out)
          have HT3 : Hid (w3.heap[w.heap.size]? = _) := (hb3.block _ hz2).trans HT2.out
          have hz3 : w.heap.size < w3.heap.size := by have := hb3.size; omega
          clear hs hb3
          go_wp2_with fail
          go_roundw
          case rel => exact ⟨k + 1, by omega, by go_num, HE3.out, hz3, HT3, HM2⟩
          case measure => simp [intOf]; omega
    · have HF := Lib.hid (HR4'.out (by rw [show l.length = k by omega]; exact HK.out))
      go_wp2_with fail
      go_ret
      exact ⟨by rw [HF.out]; rfl, hbr⟩
end Go.Proofs.YtifconapjfdkcaaGreatDoor
/-
  Contract of the comparison in incident.order.
  Condition: the places are of the list; the departures are small.
-/
namespace Go.Proofs.YtifconapjfdkcaaGreatDoor
set_option linter.unusedSimpArgs false
set_option linter.unusedVariables false
open Go.RowKit

/-- The comparison of incident.order. -/
def cmpF (fl : List GFlight) (x y : Int) : Int := if (fl.getD x.toNat noFlight).dep = (fl.getD y.toNat noFlight).dep then Lib.compareBytes (fl.getD x.toNat noFlight).number.data.toList (fl.getD y.toNat noFlight).number.data.toList
  else (fl.getD x.toNat noFlight).dep - (fl.getD y.toNat noFlight).dep
theorem cmpBytes_lt : ∀ a b : List UInt8, decide (Lib.compareBytes a b < 0) = Op.bytesLess a b
  | [], [] => by simp [Lib.compareBytes, Op.bytesLess]
  | [], _ :: _ => by simp [Lib.compareBytes, Op.bytesLess]
  | _ :: _, [] => by simp [Lib.compareBytes, Op.bytesLess]
  | a :: x, b :: y => by
    have ih := cmpBytes_lt x y
    rw [Lib.compareBytes, Op.bytesLess]
    by_cases h1 : a < b
    · simp [h1]
    · by_cases h2 : b < a
      · have h3 : ¬ a = b := fun e => by subst e; exact h1 h2
        simp [h1, h2, h3]
      · have h3 : a = b := by
          apply UInt8.toNat_inj.1
          rw [UInt8.lt_iff_toNat_lt] at h1 h2
          omega
        subst h3
        simpa [h1] using ih
theorem cmpF_lt (fl : List GFlight) (x y : Int) : decide (cmpF fl x y < 0) = ltF fl x y := by
  unfold cmpF ltF beforeB
  split
  · rw [cmpBytes_lt, ByteArray.toList_eq, ByteArray.toList_eq]
  · exact decide_eq_decide.2 (by omega)
def Quiet (v : Value) (w : World) (e : Ending) (w' : World) : Prop := e = .returned v ∧ ∃ q, w' = w.drewN q
set_option maxRecDepth 100000 in
theorem orderCmp_any (fl : List GFlight) (A : Option Addr) (n c g : Nat) (x y : Nat) (w : World) (hs : Sl Ty.flight w (all_ w) A n c fl) (hx : x < fl.length) (hy : y < fl.length) (hd : ∀ f ∈ fl, -4611686018427387904 ≤ f.dep ∧ f.dep ≤ 4611686018427387903) (h : w.cell? ⟨g, 0, none⟩ = some (.slice A n c)) :
    Calls Tryz.prog 79 #[.int .i64 x, .int .i64 y, .pointer (some ⟨g, 0, none⟩)] w (Quiet (.int .i64 (cmpF fl x y)) w) := by
  have hn1 : n ≤ fl.length := Nat.le_of_eq hs.len
  have hn2 : fl.length ≤ n := Nat.le_of_eq hs.len.symm
  have hle := hs.le
  unfold maxLen at hle
  obtain ⟨b, o, rfl, -, hx1⟩ := hs.flight_at hx
  obtain ⟨b2, o2, e2, -, hy1⟩ := hs.flight_at hy
  cases e2
  have hdx := hd _ (getD_mem0 hx noFlight)
  have hdy := hd _ (getD_mem0 hy noFlight)
  have HF : Hid (cmpF fl x y = if (fl.getD x noFlight).dep = (fl.getD y noFlight).dep then Lib.compareBytes (fl.getD x noFlight).number.data.toList (fl.getD y noFlight).number.data.toList else (fl.getD x noFlight).dep - (fl.getD y noFlight).dep) := rfl
  have x0 := hx1 0 _ rfl; have x3 := hx1 3 _ rfl; have y0 := hy1 0 _ rfl; have y3 := hy1 3 _ rfl
  rw [Nat.add_zero] at x0 y0
  generalize fl.getD x noFlight = fx at *
  generalize fl.getD y noFlight = fy at *
  have hx' : x < n := by omega
  have hy' : y < n := by omega
  clear hs hd hx1 hy1 hx hy hn1 hn2
  obtain ⟨num1, q1, q2, dep1, q3, q4, q5, q6, q7⟩ := fx
  obtain ⟨num2, r1, r2, dep2, r3, r4, r5, r6, r7⟩ := fy
  simp only at x0 x3 y0 y3 hdx hdy HF
  have hw : IntKind.i64.wrap (dep1 - dep2) = dep1 - dep2 := IntWalk.i64_in _ (by omega)
  by_cases he : dep1 = dep2
  · rw [if_pos he] at HF
    subst he
    have hz : (dep1 - dep1 != 0) = false := by simp
    have hz' : dep1 - dep1 = 0 := by omega
    have HC : Hid (∀ V, Calls Tryz.prog 80 #[.string num1, .string num2] V fun e w' => e = .returned (.int .i64 (Lib.compareBytes num1.data.toList num2.data.toList)) ∧ V = w') := fun V => (Tryz.strings_Compare num1 num2 V).mono fun _ _ ⟨he, hm⟩ => ⟨he, hm.symm⟩
    go_enter Tryz.func79, Tryz.ntmps79
    go_wp2_with fail
    go_quiet (fail)
    go_wp2_with fail
    go_quiet ((go_at_call 80; exact (HC.out _).mono fun _ _ ⟨he, hm⟩ => ⟨he, _, hm.symm⟩))
    go_wp2_with fail
    go_ret
    exact ⟨by rw [HF.out]; rfl, _, World.drewN_drewN _ _ _⟩
  · rw [if_neg he] at HF
    have hz : (dep1 - dep2 != 0) = true := by simp; omega
    go_enter Tryz.func79, Tryz.ntmps79
    go_wp2_with fail
    go_quiet (fail)
    go_wp2_with fail
    go_ret
    exact ⟨by rw [HF.out]; rfl, _, rfl⟩
end Go.Proofs.YtifconapjfdkcaaGreatDoor
/-
  Contract of slices.SortStableFunc at the places of incident.order.
  Condition: at most nineteen places, each of the list of flights.
-/
namespace Go.Proofs.YtifconapjfdkcaaGreatDoor
set_option linter.unusedSimpArgs false
set_option linter.unusedVariables false
open Go.RowKit Go.Sort

section
variable {α β : Type} [Inhabited α] [Inhabited β] {f : α → β} {lt : α → α → Bool} {lt' : β → β → Bool}
theorem map_at (d : Array α) {i : Nat} (h : i < d.size) : (d.map f)[i]! = f d[i]! := by
  rw [getElem!_pos _ i (by simpa using h), getElem!_pos _ i h, Array.getElem_map]
theorem swp_map (d : Array α) {i j : Nat} (hi : i < d.size) (hj : j < d.size) : (swp d i j).map f = swp (d.map f) i j := by
  unfold swp
  rw [map_at d hi, map_at d hj]
  simp [Array.map_setIfInBounds]
theorem innerG_size (a : Nat) : ∀ (j : Nat) (d : Array α), (insInner lt a j d).size = d.size
  | 0, d => by rw [insInner]
  | j + 1, d => by
    rw [insInner]
    split
    · rw [innerG_size a j, swp_size]
    · rfl
theorem inner_map (h : ∀ x y, lt x y = lt' (f x) (f y)) (a : Nat) : ∀ (j : Nat) (d : Array α), j < d.size → (insInner lt a j d).map f = insInner lt' a j (d.map f)
  | 0, d, _ => by rw [insInner, insInner]
  | j + 1, d, hj => by
    rw [insInner, insInner, map_at d hj, map_at d (show j < d.size by omega), ← h]
    split
    · rw [inner_map h a j _ (by rw [swp_size]; omega), swp_map d hj (by omega)]
    · rfl
theorem outer_map (h : ∀ x y, lt x y = lt' (f x) (f y)) (a b : Nat) : ∀ (m i : Nat) (d : Array α), b - i = m → b ≤ d.size → (insOuter lt a b i d).map f = insOuter lt' a b i (d.map f)
  | 0, i, d, hm, hb => by
    rw [insOuter_stop _ _ _ _ _ (by omega), insOuter_stop _ _ _ _ _ (by omega)]
  | m + 1, i, d, hm, hb => by
    rw [insOuter_go lt a b i d (by omega), insOuter_go lt' a b i (d.map f) (by omega)]
    rw [outer_map h a b m (i + 1) _ (by omega) (by rw [innerG_size]; exact hb), inner_map h a i d (by omega)]
theorem sort_map (h : ∀ x y, lt x y = lt' (f x) (f y)) (a b : Nat) (d : Array α) (hb : b ≤ d.size) : (insertionSort lt d a b).map f = insertionSort lt' (d.map f) a b :=
  outer_map h a b _ _ d rfl hb
theorem outer_size (a b : Nat) : ∀ (m i : Nat) (d : Array α), b - i = m → (insOuter lt a b i d).size = d.size
  | 0, i, d, hm => by rw [insOuter_stop _ _ _ _ _ (by omega)]
  | m + 1, i, d, hm => by rw [insOuter_go lt a b i d (by omega), outer_size a b m (i + 1) _ (by omega), innerG_size]
theorem putRow_map {enc : α → Value} {enc' : β → Value} (h : ∀ x, enc x = enc' (f x)) (w : World) (blk off : Nat) (d : Array α) : putRow enc w blk off d = putRow enc' w blk off (d.map f) := by
  unfold putRow
  refine mapBlock_congr w blk _ _ fun c e fr _ => ?_
  unfold Go.Sort.putCells
  rw [Array.size_map]
  congr 1
  funext k x
  split
  · rename_i hk
    rw [map_at d (by omega), h]
  · rfl
end
/-- The places as numbers below n. -/
def encF {n : Nat} (i : Fin n) : Value := .int .i64 (i.val : Int)
def finI {n : Nat} (i : Fin n) : Int := (i.val : Int)
theorem places_fin {n : Nat} {L : List Int} (h : ∀ y ∈ L, ∃ i : Nat, y = i ∧ i < n) : ∃ d : List (Fin n), L = d.map finI := by
  induction L with
  | nil => exact ⟨[], rfl⟩
  | cons y L ih =>
    obtain ⟨d, hd⟩ := ih fun z hz => h z (List.mem_cons_of_mem _ hz)
    obtain ⟨i, rfl, hi⟩ := h y (List.mem_cons_self)
    exact ⟨⟨i, hi⟩ :: d, by rw [List.map_cons, ← hd]; rfl⟩
/-- The sort of places, by the comparison of incident.order. -/
theorem insSort_any (fl : List GFlight) (A : Option Addr) (n c g rb cap : Nat) (L : List Int) (w : World) (hL : ∀ y ∈ L, ∃ i : Nat, y = i ∧ i < fl.length) (hs : Sl Ty.flight w (fun b => b < w.heap.size ∧ b ≠ rb) A n c fl) (hd : ∀ f ∈ fl, -4611686018427387904 ≤ f.dep ∧ f.dep ≤ 4611686018427387903)
    (hg : w.cell? ⟨g, 0, none⟩ = some (.slice A n c)) (hgr : g ≠ rb) {cur : Array Value} (hb : w.heap[rb]? = some (.cells cur 3 (0, 0))) (ht : cur.toList.take L.length = L.map (Value.int .i64)) (hlen : L.length ≤ 19) (hfl : 0 < fl.length) :
    Calls Tryz.prog 156 #[.slice (some ⟨rb, 0, none⟩) L.length cap, .int .i64 0, .int .i64 L.length, .func (.func 79) #[] #[.pointer (some ⟨g, 0, none⟩)]] w
      fun e w' => e = .returned (.tuple #[]) ∧ ∃ m, w' = putRow (Value.int .i64) (Sort.ahead w m) rb 0 (Sort.insertionSort (ltF fl) L.toArray 0 L.length) := by
  obtain ⟨d, rfl⟩ := places_fin hL
  haveI : Inhabited (Fin fl.length) := ⟨⟨0, hfl⟩⟩
  have hrl : rb < w.heap.size := (Array.getElem?_eq_some_iff.1 hb).1
  have hH : Holds encF w rb 0 d.toArray := by
    intro j hj
    have := holds_of_blockI (ss := d.map finI) hb (by simpa using ht) j (by simpa using hj)
    have e1 : (d.map finI).toArray[j]! = finI d.toArray[j]! := by
      have := map_at (α := Fin fl.length) (f := finI) d.toArray hj
      simpa using this
    rw [e1] at this
    exact this
  have hkeep : ∀ (m : Nat) (os : Array Obj) (dk : Array (Fin fl.length)) (k : Nat), k < w.heap.size → k ≠ rb → (sortWorld (encF (n := fl.length)) w rb 0 m dk os).heap[k]? = w.heap[k]? := fun m os dk k hk hne => by
    unfold sortWorld
    rw [heap_grow_old _ _ (by rw [size_putRow (α := Fin fl.length)]; exact hk)]
    have : rb ≠ k := fun e => hne e.symm
    simp [putRow, mapBlock, Sort.ahead, Array.getElem?_modify, this]
  have hgl : g < w.heap.size := World.block_lt_of_cell? w _ hg
  have hcmp : CmpReads (α := Fin fl.length) Tryz.prog 79 #[.pointer (some ⟨g, 0, none⟩)] encF (fun x y => cmpF fl (finI x) (finI y)) rb 0 d.toArray.size w := by
    intro m os dk hdk x y
    refine (orderCmp_any fl A n c g x.val y.val (sortWorld (encF (n := fl.length)) w rb 0 m dk os) ?_ x.isLt y.isLt hd ?_).mono fun e w' h => h
    · refine (hs.keep fun b hb => hkeep m os dk b hb.1 hb.2).more fun b hb => ?_
      have : (sortWorld (encF (n := fl.length)) w rb 0 m dk os).heap.size = w.heap.size + os.size := by
        unfold sortWorld
        rw [size_grow, size_putRow (α := Fin fl.length)]
        rfl
      show b < _
      rw [this]
      omega
    · rw [cell_of_same (a := ⟨g, 0, none⟩) (hkeep m os dk g hgl hgr)]
      exact hg
  have hn : ¬ Tryz.f79.name = "runtime.NumGoroutine" := of_decide_eq_false (by kernel_rfl)
  have hbd : Tryz.f79.body.isNone = false := by kernel_rfl
  have hbd : ¬ Tryz.f79.body = none := fun e => by rw [e] at hbd; cases hbd
  have key := Tryz.insertionSortCmpFunc_one (α := Fin fl.length) encF (fun _ => rfl) (fun x y => cmpF fl (finI x) (finI y)) 79 #[.pointer (some ⟨g, 0, none⟩)] rb 0 cap 0 d.length d.toArray w (fun args w => by simp [callFunc, Sem.run_bind, program, Sem.run, Tryz.func79, hn, hbd]) hcmp hH (Nat.zero_le _) (by simp) (by simp at hlen ⊢; omega)
  simp only [List.length_map]
  refine Calls.mono (by simpa using key) ?_
  rintro e w' ⟨rfl, m, rfl⟩
  refine ⟨rfl, m, ?_⟩
  have e0 := putRow_drewN (encF (n := fl.length)) w 0 m rb 0 (insertionSort (ltOf fun x y => cmpF fl (finI x) (finI y)) d.toArray 0 d.length)
  rw [Nat.zero_add] at e0
  refine e0.trans ?_
  rw [putRow_map (enc := encF (n := fl.length)) (f := finI) (enc' := Value.int .i64) (fun _ => rfl)]
  rw [sort_map (f := finI) (lt := ltOf fun (x y : Fin fl.length) => cmpF fl (finI x) (finI y)) (lt' := ltF fl) (fun x y => cmpF_lt fl _ _) 0 d.length d.toArray (by simp)]
  have : d.toArray.map finI = (d.map finI).toArray := by simp
  rw [this]
theorem insSort_nil (g : Nat) (c : Nat) (w : World) :
    Calls Tryz.prog 156 #[.slice none 0 c, .int .i64 0, .int .i64 0, .func (.func 79) #[] #[.pointer (some ⟨g, 0, none⟩)]] w
      fun e w' => e = .returned (.tuple #[]) ∧ w' = w := by
  go_enter Tryz.func156, Tryz.ntmps156
  go_wp2_with fail
  go_loopw [8] (fun s wr => s = .int .i64 1 ∧ wr = w) (fun _ _ => 0)
  case atStart => exact ⟨rfl, rfl⟩
  case round =>
    obtain ⟨rfl, rfl⟩ := hrel
    go_wp2_with fail
    go_end0
    exact ⟨rfl, rfl⟩
/-- What the sort leaves. -/
def SortPost (rb : Option Nat) (base : Nat) (v : Value) (L : List Int) (w : World) (e : Ending) (w' : World) : Prop := e = .returned (.tuple #[]) ∧ w.grownBy w' rb ∧ Own (Ty.int .i64) 3 w' base v L
theorem own_of_ints {w : World} {base : Nat} {v : Value} {L : List Int} (h : w.ownsRow base 3 1 v L.length (L.map (Value.int .i64))) : Own (Ty.int .i64) 3 w base v L := by
  refine ⟨_, h, by simp [Ty.int], fun i x hi => ?_⟩
  show _ = _
  have hlt := (List.getElem?_eq_some_iff.1 hi).1
  have e : i * (Ty.int .i64).size = i := by show i * 1 = i; omega
  rw [e]
  apply List.ext_getElem?
  intro j
  rcases j with _ | j
  · show (List.take 1 _)[0]? = _
    rw [List.getElem?_take_of_lt (by omega), List.getElem?_drop, Nat.add_zero, List.getElem?_map, hi]
    rfl
  · show (List.take 1 _)[j + 1]? = _
    rw [List.getElem?_take_eq_none (by omega)]
    rfl
theorem ints_of_own {w : World} {base : Nat} {v : Value} {L : List Int} (h : Own (Ty.int .i64) 3 w base v L) : w.ownsRow base 3 1 v L.length (L.map (Value.int .i64)) := by
  obtain ⟨cs, h1, h2⟩ := h
  have : cs = L.map (Value.int .i64) := by
    apply List.ext_getElem?
    intro j
    have hl : cs.length = L.length := by rw [h2.1]; show L.length * 1 = _; omega
    rcases Nat.lt_or_ge j L.length with hj | hj
    · have hx := h2.2 j _ (List.getElem?_eq_getElem hj)
      have hx' : (cs.drop (j * 1)).take 1 = [Value.int .i64 L[j]] := hx
      rw [Nat.mul_one] at hx'
      have h0 := congrArg (·[0]?) hx'
      simp only [List.getElem?_take_of_lt (show 0 < 1 by omega), List.getElem?_drop, Nat.add_zero] at h0
      rw [h0, List.getElem?_map, List.getElem?_eq_getElem hj]
      rfl
    · rw [List.getElem?_eq_none (by omega), List.getElem?_eq_none (by simp; omega)]
  subst this
  exact h1
theorem sort_len (lt : Int → Int → Bool) (L : List Int) : (Sort.insertionSort lt L.toArray 0 L.length).size = L.length := by
  unfold Sort.insertionSort
  rw [outer_size 0 L.length _ _ _ rfl]
  simp
/-- insertionSortCmpFunc on an own row of places. -/
theorem insSort_own (fl : List GFlight) (A : Option Addr) (n c g base : Nat) (v : Value) (L : List Int) (w : World) (ho : Own (Ty.int .i64) 3 w base v L) (hL : ∀ y ∈ L, ∃ i : Nat, y = i ∧ i < fl.length) (hs : Sl Ty.flight w (fun b => b < base) A n c fl) (hbase : base ≤ w.heap.size)
    (hd : ∀ f ∈ fl, -4611686018427387904 ≤ f.dep ∧ f.dep ≤ 4611686018427387903) (hg : w.cell? ⟨g, 0, none⟩ = some (.slice A n c)) (hgb : g < base) (hlen : L.length ≤ 19) (hfl : 0 < fl.length) :
    Calls Tryz.prog 156 #[v, .int .i64 0, .int .i64 L.length, .func (.func 79) #[] #[.pointer (some ⟨g, 0, none⟩)]] w
      (SortPost v.ownBlock base v (Sort.insertionSort (ltF fl) L.toArray 0 L.length).toList w) := by
  have hr := ints_of_own ho
  have hsl := sort_len (ltF fl) L
  rcases hr.2 with ⟨rfl, h0⟩ | ⟨rb, cap, cur, rfl, hb, hg2, hnc, hm, hcur, htake⟩
  · have hl0 : L = [] := List.eq_nil_of_length_eq_zero h0
    subst hl0
    refine (insSort_nil g 0 w).mono ?_
    rintro e w' ⟨rfl, rfl⟩
    have e1 : (Sort.insertionSort (ltF fl) ([] : List Int).toArray 0 ([] : List Int).length).toList = [] := List.eq_nil_of_length_eq_zero (by simpa using hsl)
    rw [e1]
    exact ⟨rfl, ⟨rfl, rfl, rfl, Nat.le_refl _, fun _ _ _ => rfl⟩, Own.nil⟩
  · have htake' : cur.toList.take L.length = L.map (Value.int .i64) := by rw [← htake, Nat.mul_one]
    refine (insSort_any fl A n c g rb cap L w hL (hs.more fun b hb' => ⟨by omega, by omega⟩) hd hg (by omega) hg2 htake' hlen hfl).mono ?_
    rintro e w' ⟨rfl, m, rfl⟩
    have hts : (Sort.insertionSort (ltF fl) L.toArray 0 L.length).toList.length = L.length := by simpa using hsl
    have hgrow := grownBy_sortedI (w := w) (g := rb) (n := m) (os := #[]) (Sort.insertionSort (ltF fl) L.toArray 0 L.length)
    have hrow := ownsRow_sortedI (w := w) (base := base) (g := rb) (cap := cap) (n := m) (e := 3) (os := #[]) (cur := cur) (ss := L) (ts := (Sort.insertionSort (ltF fl) L.toArray 0 L.length).toList) hts hb hg2 hnc hm hcur
    rw [grow_empty] at hgrow hrow
    refine ⟨rfl, hgrow, own_of_ints ?_⟩
    rw [hts]
    simpa using hrow
theorem stable_any (fl : List GFlight) (A : Option Addr) (n c g base : Nat) (v : Value) (L : List Int) (w : World) (ho : Own (Ty.int .i64) 3 w base v L) (hL : ∀ y ∈ L, ∃ i : Nat, y = i ∧ i < fl.length) (hs : Sl Ty.flight w (fun b => b < base) A n c fl) (hbase : base ≤ w.heap.size)
    (hd : ∀ f ∈ fl, -4611686018427387904 ≤ f.dep ∧ f.dep ≤ 4611686018427387903) (hg : w.cell? ⟨g, 0, none⟩ = some (.slice A n c)) (hgb : g < base) (hlen : L.length ≤ 19) (hfl : 0 < fl.length) :
    Calls Tryz.prog 111 #[v, .int .i64 L.length, .func (.func 79) #[] #[.pointer (some ⟨g, 0, none⟩)]] w
      (SortPost v.ownBlock base v (Sort.insertionSort (ltF fl) L.toArray 0 L.length).toList w) := by
  have HC := Lib.hid (insSort_own fl A n c g base v L w ho hL hs hbase hd hg hgb hlen hfl)
  generalize (Sort.insertionSort (ltF fl) L.toArray 0 L.length).toList = R at *
  generalize L.length = k at *
  obtain ⟨A0, c0, rfl, -⟩ := ho.sl
  generalize hob : Value.ownBlock _ = ob at HC ⊢
  clear ho hL hs hd hg hob
  go_enter Tryz.func111, Tryz.ntmps111
  go_wp2_with fail
  go_loopw [7, 8] (fun s7 s8 wr => s7 = .int .i64 0 ∧ s8 = .int .i64 20 ∧ wr = w) (fun _ _ _ => 0)
  case atStart => exact ⟨rfl, rfl, rfl⟩
  case round =>
    obtain ⟨rfl, rfl, rfl⟩ := hrel
    go_wp2_with fail
    refine HC.out.mono ?_
    rintro e w1 ⟨rfl, h1, h2⟩
    have H1 := Lib.hid h1; have H2 := Lib.hid h2
    clear h1 h2 HC
    go_wp2_with fail
    go_loopw [6, 7, 8, 9] (fun s6 _ _ _ wq => s6 = .int .i64 20 ∧ wq = w1) (fun _ _ _ _ _ => 0)
    case atStart => exact ⟨rfl, rfl⟩
    case round =>
      obtain ⟨rfl, rfl⟩ := hrel
      go_wp2_with fail
      go_end0
      exact ⟨rfl, H1.out, H2.out⟩
theorem sortStable_any (fl : List GFlight) (A : Option Addr) (n c g base : Nat) (v : Value) (L : List Int) (w : World) (ho : Own (Ty.int .i64) 3 w base v L) (hL : ∀ y ∈ L, ∃ i : Nat, y = i ∧ i < fl.length) (hs : Sl Ty.flight w (fun b => b < base) A n c fl) (hbase : base ≤ w.heap.size)
    (hd : ∀ f ∈ fl, -4611686018427387904 ≤ f.dep ∧ f.dep ≤ 4611686018427387903) (hg : w.cell? ⟨g, 0, none⟩ = some (.slice A n c)) (hgb : g < base) (hlen : L.length ≤ 19) (hfl : 0 < fl.length) :
    Calls Tryz.prog 78 #[v, .func (.func 79) #[] #[.pointer (some ⟨g, 0, none⟩)]] w
      (SortPost v.ownBlock base v (Sort.insertionSort (ltF fl) L.toArray 0 L.length).toList w) := by
  have HC := Lib.hid (stable_any fl A n c g base v L w ho hL hs hbase hd hg hgb hlen hfl)
  generalize (Sort.insertionSort (ltF fl) L.toArray 0 L.length).toList = R at *
  obtain ⟨A0, c0, rfl, -⟩ := ho.sl
  generalize hk : L.length = k at *
  generalize hob : Value.ownBlock _ = ob at HC ⊢
  clear ho hL hs hd hg hob
  go_enter Tryz.func78, Tryz.ntmps78
  go_wp2_with fail
  refine HC.out.mono ?_
  rintro e w1 ⟨rfl, h1, h2⟩
  have H1 := Lib.hid h1; have H2 := Lib.hid h2
  clear h1 h2 HC
  go_wp2_with fail
  go_end0
  exact ⟨rfl, H1.out, H2.out⟩
end Go.Proofs.YtifconapjfdkcaaGreatDoor
/-
  Contract of incident.order.
  Condition: one to nineteen flights.
-/
namespace Go.Proofs.YtifconapjfdkcaaGreatDoor
set_option linter.unusedSimpArgs false
set_option linter.unusedVariables false
open Go.RowKit

def leftK (gone : List Bool) (k : Nat) : List Int := ((List.range k).filter fun i => !gone.getD i false).map fun (i : Nat) => (i : Int)
theorem leftK_all (gone : List Bool) : leftK gone gone.length = leftI gone := rfl
theorem leftK_yes {gone : List Bool} {k : Nat} (h : gone.getD k false = false) : leftK gone (k + 1) = leftK gone k ++ [(k : Int)] := by
  unfold leftK
  rw [List.range_succ, List.filter_append, List.map_append, List.filter_cons, h]
  rfl
theorem leftK_no {gone : List Bool} {k : Nat} (h : gone.getD k false = true) : leftK gone (k + 1) = leftK gone k := by
  unfold leftK
  rw [List.range_succ, List.filter_append, List.map_append, List.filter_cons, h]
  simp
theorem leftK_len (gone : List Bool) (k : Nat) : (leftK gone k).length ≤ k := by
  unfold leftK
  rw [List.length_map]
  have := List.length_filter_le (fun i => !gone.getD i false) (List.range k)
  simpa using this
theorem Sl.bool_at {w : World} {S : Nat → Prop} {A : Option Addr} {n c : Nat} {xs : List Bool} (h : Sl Ty.bool w S A n c xs) {k : Nat} (hk : k < xs.length) : ∃ b o, A = some ⟨b, o, none⟩ ∧ S b ∧ w.cell? ⟨b, o + k, none⟩ = some (.bool (xs.getD k false)) := by
  obtain ⟨b, o, cs, e, hs, hr, ha⟩ := h.at_ hk
  have hr' : cs = [.bool xs[k]] := hr
  subst hr'
  have e1 : xs.getD k false = xs[k] := by rw [List.getD_eq_getElem?_getD, List.getElem?_eq_getElem hk]; rfl
  rw [e1]
  have := ha 0 _ rfl
  simp only [Ty.bool, Nat.mul_one, Nat.add_zero] at this
  exact ⟨b, o, e, hs, this⟩
set_option maxRecDepth 100000 in
theorem order_any (fl : List GFlight) (gone : List Bool) (A B : Option Addr) (n c m d : Nat) (w : World) (hs : Sl Ty.flight w (all_ w) A n c fl) (hg : Sl Ty.bool w (all_ w) B m d gone) (he : gone.length = fl.length) (h0 : 0 < fl.length) (h19 : fl.length ≤ 19)
    (hd : ∀ f ∈ fl, -4611686018427387904 ≤ f.dep ∧ f.dep ≤ 4611686018427387903) :
    Calls Tryz.prog 46 #[.slice A n c, .slice B m d] w (OwnPost (Ty.int .i64) 3 (orderI fl gone) w) := by
  have hn1 : n ≤ fl.length := Nat.le_of_eq hs.len
  have hn2 : fl.length ≤ n := Nat.le_of_eq hs.len.symm
  have hm := hg.len
  have HS : Hid (∀ V, Below w.heap.size w V → Sl Ty.flight V (all_ w) A n c fl) := fun V hV => hs.keep (all_keep hV)
  have HG : Hid (∀ V, Below w.heap.size w V → Sl Ty.bool V (all_ w) B m d gone) := fun V hV => hg.keep (all_keep hV)
  have HB0 : Hid (∀ o, Below w.heap.size w (w.alloc o)) := fun o => (Below.refl _ _).alloc (Nat.le_refl _) o
  have HR0 : Hid (∀ o, (w.alloc o).heap[w.heap.size]? = some o) := fun o => heap_alloc_new _ _
  have HD := Lib.hid hd; have HE := Lib.hid he; have HM := Lib.hid hm
  clear hs hg hd he hm
  go_enter Tryz.func46, Tryz.ntmps46
  go_wp2_with fail
  have hbw := HB0.out (.cells #[.slice A n c] 25)
  have hrw := HR0.out (.cells #[.slice A n c] 25)
  have hzw : (w.alloc (.cells #[.slice A n c] 25)).heap.size = w.heap.size + 1 := by simp
  generalize w.alloc (.cells #[.slice A n c] 25) = W at *
  clear HB0 HR0
  have HRW := Lib.hid hrw; have HBW := Lib.hid hbw; have HZW := Lib.hid hzw
  clear hrw hbw hzw
  go_loopw [5, 6, 9] (fun v _ s wr => ∃ k : Nat, k ≤ n ∧ s = .int .i64 k ∧ Below (w.heap.size + 1) W wr ∧ w.heap.size < wr.heap.size ∧ Own (Ty.int .i64) 3 wr (w.heap.size + 1) v (leftK gone k)) (fun _ _ s _ => n - (intOf s).toNat)
  case atStart => exact ⟨0, Nat.zero_le _, rfl, Below.refl _ _, by have := HZW.out; omega, Own.nil⟩
  case round =>
    obtain ⟨k, hk, rfl, hbr, hsz, hown⟩ := hrel
    have HBR : Hid (Below w.heap.size w wr) := HBW.out.trans (hbr.mono (by omega))
    by_cases hlt : k < n
    · obtain ⟨b, o, rfl, hbS, hgk⟩ := (HG.out wr HBR.out).bool_at (k := k) (by have := HE.out; omega)
      have hkm : k < m := by have := HM.out; have := HE.out; omega
      have hlen := leftK_len gone k
      have HN1 := Lib.hid (leftK_yes (gone := gone) (k := k))
      have HN2 := Lib.hid (leftK_no (gone := gone) (k := k))
      obtain ⟨A5, c5, rfl, -⟩ := hown.sl
      generalize gone.getD k false = q at *
      cases q with
      | true =>
        have hown2 : Own (Ty.int .i64) 3 wr (w.heap.size + 1) (.slice A5 (leftK gone k).length c5) (leftK gone (k + 1)) := by rw [HN2.out rfl]; exact hown
        have HO := Lib.hid hown2
        clear HN1 HN2 hown hown2
        go_wp2_with fail
        go_roundw
        case rel => exact ⟨k + 1, by omega, by go_num, hbr, hsz, HO.out⟩
        case measure => simp [intOf]; omega
      | false =>
        have HNE := Lib.hid (HN1.out rfl)
        have HOA : Hid (∀ oo, Own (Ty.int .i64) 3 (wr.alloc oo) (w.heap.size + 1) (.slice A5 (leftK gone k).length c5) (leftK gone k)) := fun oo => hown.alloc oo
        have HBA : Hid (∀ oo, Below (w.heap.size + 1) W (wr.alloc oo)) := fun oo => hbr.alloc (by omega) oo
        clear HN1 HN2 hown
        go_wp2_with (at_builtin; refine wpList_push_int rfl _ _ rfl elem_ints (by decide) (by decide) rfl (HOA.out _) wr.heap.size k rfl ?c1 ?c2 ?c3 ?c5 (HBA.out _) ?_)
        case c1 => simp
        case c2 => omega
        case c3 => simp; omega
        case c5 => exact Nat.le_refl _
        intro v' w7 hown7 hb7
        rw [← HNE.out] at hown7
        have hz7 : w.heap.size < w7.heap.size := by have := hb7.size; have := HZW.out; omega
        clear HOA HBA HNE
        go_wp2_with fail
        go_roundw
        case rel => exact ⟨k + 1, by omega, by go_num, hb7, hz7, hown7⟩
        case measure => simp [intOf]; omega
    · have hkn : k = gone.length := by have := HE.out; omega
      subst hkn
      have hsl := HS.out wr HBR.out
      have hgc : wr.cell? ⟨w.heap.size, 0, none⟩ = some (.slice A n c) := (cell_of_same (a := ⟨w.heap.size, 0, none⟩) (hbr.block _ (show w.heap.size < w.heap.size + 1 by omega))).trans (block_cell HRW.out 0)
      have HC := Lib.hid (sortStable_any fl A n c w.heap.size (w.heap.size + 1) _ (leftK gone gone.length) wr hown (fun y hy => by
        rw [leftK_all] at hy
        obtain ⟨i, rfl, hi, _⟩ := leftI_mem.1 hy
        exact ⟨i, rfl, by have := HE.out; omega⟩) (hsl.more fun b hb => by
        have : b < w.heap.size := hb
        omega) (by omega) HD.out hgc (by omega) (by have := leftK_len gone gone.length; have := HE.out; omega) h0)
      have HR : Hid ((Sort.insertionSort (ltF fl) (leftK gone gone.length).toArray 0 (leftK gone gone.length).length).toList = orderI fl gone) := by
        show _ = _
        unfold orderI
        rw [leftK_all]
        simp
      have hlo := hown.lt
      have hsl5 := hown.sl
      generalize (Sort.insertionSort (ltF fl) (leftK gone gone.length).toArray 0 (leftK gone gone.length).length).toList = R at *
      obtain ⟨A5, c5, rfl, -⟩ := hsl5
      generalize (leftK gone gone.length).length = q at *
      generalize hob : Value.ownBlock _ = ob at HC hlo
      have HBW2 := Lib.hid (hbr)
      clear hown hgc hsl
      go_wp2_with fail
      refine HC.out.mono ?_
      rintro e w1 ⟨rfl, hg1, ho1⟩
      have HFIN : Hid (Below w.heap.size w w1) := HBR.out.grown hg1 (by omega) (fun j hj => by have := (hlo j hj).1; omega)
      have HOW : Hid (Own (Ty.int .i64) 3 w1 w.heap.size (.slice A5 q c5) R) := ho1.lower (by omega)
      clear HC hg1 ho1 hlo
      go_wp2_with fail
      go_ret
      rw [← HR.out]
      exact ⟨_, rfl, HOW.out, HFIN.out⟩
end Go.Proofs.YtifconapjfdkcaaGreatDoor
/-
  The plain function of incident.Apply and what holds while it runs.
  No condition.
-/
namespace Go.Proofs.YtifconapjfdkcaaGreatDoor
set_option linter.unusedSimpArgs false
set_option linter.unusedVariables false
open Go.RowKit

def incE2 (t : GTT) (x : GInc) : Int := if x.kind < 1 ∨ 4 < x.kind then 5 else if x.kind = 4 then 0 else flightIncE t x
def newTT (t : GTT) (l : List GInc) : GTT := ⟨t.zones, t.airports, newFl (appAll t l).1 (appAll t l).2⟩
def indexL (t : GTT) (l : List GInc) : List Int := (List.range t.flights.length).map (indexI (appAll t l).1 (appAll t l).2)
theorem applyP_eq (t : GTT) (l : List GInc) : applyP t l = if ttE t ≠ 0 then (⟨[], [], []⟩, [], ttE t)
  else if firstErr (fun i => incE2 t (l.getD i noInc)) l.length ≠ 0 then (⟨[], [], []⟩, [], firstErr (fun i => incE2 t (l.getD i noInc)) l.length)
  else if ttE (newTT t l) ≠ 0 then (⟨[], [], []⟩, [], ttE (newTT t l))
  else (newTT t l, indexL t l, 0) := rfl
/-- The state after k incidents. -/
def appTo (t : GTT) (l : List GInc) (k : Nat) : List GFlight × List Bool := (l.take k).foldl appSt (t.flights, List.replicate t.flights.length false)
theorem appTo_zero (t : GTT) (l : List GInc) : appTo t l 0 = (t.flights, List.replicate t.flights.length false) := rfl
theorem appTo_all (t : GTT) (l : List GInc) : appTo t l l.length = appAll t l := by unfold appTo appAll; rw [List.take_length]
theorem appTo_succ (t : GTT) (l : List GInc) {k : Nat} (hk : k < l.length) : appTo t l (k + 1) = appSt (appTo t l k) (l.getD k noInc) := by
  unfold appTo
  rw [List.take_succ_eq_append_getElem hk, List.foldl_append]
  rw [List.getD_eq_getElem?_getD, List.getElem?_eq_getElem hk]
  rfl
theorem appSt_len (s : List GFlight × List Bool) (x : GInc) : (appSt s x).1.length = s.1.length ∧ (appSt s x).2.length = s.2.length := by
  unfold appSt
  split
  · exact ⟨rfl, rfl⟩
  split
  · exact ⟨List.length_set, rfl⟩
  split
  · exact ⟨rfl, List.length_set⟩
  · exact ⟨List.length_set, rfl⟩
theorem appTo_len (t : GTT) (l : List GInc) : ∀ k, k ≤ l.length → (appTo t l k).1.length = t.flights.length ∧ (appTo t l k).2.length = t.flights.length
  | 0, _ => by rw [appTo_zero]; simp
  | k + 1, hk => by
    have ih := appTo_len t l k (by omega)
    rw [appTo_succ t l (by omega)]
    have := appSt_len (appTo t l k) (l.getD k noInc)
    omega

/-- A new row of one datum. -/
theorem OwnS.made {α : Type} {t : Ty α} {e : TypeId} {w : World} {S : Nat → Prop} {base n : Nat} {z : Value} {x : α} (hsz : t.size = 1) (hrep : ∀ w S, t.rep w S [z] x) (hb : base ≤ w.heap.size) (hn : n ≤ maxLen) :
    OwnS t e (w.alloc (.cells (madeCells #[z] n) e)) S base (.slice (some ⟨w.heap.size, 0, none⟩) n n) (List.replicate n x) := by
  have hmc : (madeCells #[z] n).toList = List.replicate n z := by
    apply List.ext_getElem?
    intro j
    unfold madeCells
    by_cases hj : j < n
    · rw [List.getElem?_replicate, if_pos hj]
      simp [hj, Nat.mod_one]
    · rw [List.getElem?_replicate, if_neg hj]
      simp
      omega
  refine ⟨List.replicate n z, ⟨by simp [hsz], .inr ⟨_, n, _, by simp, hb, heap_alloc_new _ _, by simp, hn, ?_, ?_⟩⟩, by simp [hsz], fun i y hi => ?_⟩
  · rw [← Array.length_toList, hmc, hsz]; simp
  · rw [hmc, hsz]; simp
  · have hi' : i < n ∧ y = x := by
      rw [List.getElem?_replicate] at hi
      split at hi
      · rename_i h; injection hi with hi; exact ⟨h, hi.symm⟩
      · cases hi
    obtain ⟨hi', rfl⟩ := hi'
    rw [hsz, Nat.mul_one, List.drop_replicate, List.take_replicate, Nat.min_eq_left (by omega)]
    exact hrep _ _
theorem OwnS.ownAt {α : Type} {t : Ty α} {e : TypeId} {w : World} {S : Nat → Prop} {base : Nat} {v : Value} {xs : List α} (h : OwnS t e w S base v xs) (hp : 0 < xs.length) : ∃ g c cur, v = .slice (some ⟨g, 0, none⟩) xs.length c ∧ base ≤ g ∧ g < w.heap.size ∧ w.heap[g]? = some (.cells cur e (0, 0)) := by
  obtain ⟨cs, h1, _⟩ := h
  rcases h1.2 with ⟨_, h0⟩ | ⟨g, cap, cur, rfl, hg, hb, r⟩
  · omega
  · exact ⟨g, cap, cur, rfl, hg, (Array.getElem?_eq_some_iff.1 hb).1, hb⟩
/-- What holds while the incidents are applied. -/
structure AP (w : World) (tc : Array Value) (base : Nat) (wr : World) (vF vC : Value) (s : List GFlight × List Bool) : Prop where
  t : wr.heap[w.heap.size]? = some (.cells tc 27 (0, 0))
  res : wr.heap[w.heap.size + 1]? = some (.cells #[.slice none 0 0, .slice none 0 0, .slice none 0 0] 27 (0, 0))
  F : OwnS Ty.flight 62 wr (fun _ => False) base vF s.1
  C : OwnS Ty.bool 4 wr (fun _ => False) base vC s.2
  bel : Below w.heap.size w wr
  l : w.heap.size + 2 ≤ base
section
variable {w : World} {tc : Array Value} {base : Nat} {wr w' : World} {vF vC : Value} {s : List GFlight × List Bool}
theorem AP.next (h : AP w tc base wr vF vC s) (hb : Below wr.heap.size wr w') : AP w tc base w' vF vC s := by
  have h1 := (Array.getElem?_eq_some_iff.1 h.t).1
  have h2 := (Array.getElem?_eq_some_iff.1 h.res).1
  exact ⟨(hb.block _ h1).trans h.t, (hb.block _ h2).trans h.res, h.F.next hb fun _ h => h.elim, h.C.next hb fun _ h => h.elim, h.bel.trans (hb.mono h.bel.size), h.l⟩
theorem AP.setF {g n c : Nat} (h : AP w tc base wr (.slice (some ⟨g, 0, none⟩) n c) vC s) {k j : Nat} (hk : k < s.1.length) (hj : j < 9) {u : Value} {y : GFlight} (hy : (flightCells (s.1.getD k y)).set j u = flightCells y) :
    AP w tc base (wr.setCell ⟨g, k * 9 + j, none⟩ u) (.slice (some ⟨g, 0, none⟩) n c) vC (s.1.set k y, s.2) := by
  have hg := (h.F.lt g rfl).1
  have hl := h.l
  have hk2 : ∀ q, q ≠ g → (wr.setCell ⟨g, k * 9 + j, none⟩ u).heap[q]? = wr.heap[q]? := fun q hq => heap_setCell_other _ _ _ _ hq
  refine ⟨(hk2 _ (by omega)).trans h.t, (hk2 _ (by omega)).trans h.res, ?_, h.C.keep (by simp) (fun q hq => hk2 q fun e => ?_) (fun _ h => h.elim), h.bel.setCell (show w.heap.size ≤ g by omega) _, hl⟩
  · exact h.F.setAt (t := Ty.flight) hk hj (fun h => h) fun cs hr => by
      have hr' : cs = flightCells (s.1.getD k y) := hr
      subst hr'
      exact hy
  · obtain ⟨c1, e1⟩ := h.C.block hq
    obtain ⟨c2, e2⟩ := h.F.block (k := g) rfl
    rw [e, e2] at e1
    cases e1
theorem AP.setC {g n c : Nat} (h : AP w tc base wr vF (.slice (some ⟨g, 0, none⟩) n c) s) {k : Nat} (hk : k < s.2.length) :
    AP w tc base (wr.setCell ⟨g, k, none⟩ (.bool true)) vF (.slice (some ⟨g, 0, none⟩) n c) (s.1, s.2.set k true) := by
  have hg := (h.C.lt g rfl).1
  have hl := h.l
  have hk2 : ∀ q, q ≠ g → (wr.setCell ⟨g, k, none⟩ (.bool true)).heap[q]? = wr.heap[q]? := fun q hq => heap_setCell_other _ _ _ _ hq
  refine ⟨(hk2 _ (by omega)).trans h.t, (hk2 _ (by omega)).trans h.res, h.F.keep (by simp) (fun q hq => hk2 q fun e => ?_) (fun _ h => h.elim), ?_, h.bel.setCell (show w.heap.size ≤ g by omega) _, hl⟩
  · obtain ⟨c1, e1⟩ := h.F.block hq
    obtain ⟨c2, e2⟩ := h.C.block (k := g) rfl
    rw [e, e2] at e1
    cases e1
  · have := h.C.setAt (t := Ty.bool) (j := 0) (u := .bool true) (y := true) hk (show 0 < 1 by decide) (fun h => h) fun cs hr => by
      have hr' : cs = [.bool (s.2.getD k true)] := hr
      subst hr'
      rfl
    have e : k * Ty.bool.size + 0 = k := by show k * 1 + 0 = k; omega
    rw [e] at this
    exact this
end
end Go.Proofs.YtifconapjfdkcaaGreatDoor
/-
  The indexes of incident.Apply while they are written.
  No condition.
-/
namespace Go.Proofs.YtifconapjfdkcaaGreatDoor
set_option linter.unusedSimpArgs false
set_option linter.unusedVariables false
open Go Go.RowKit

/-- After k places of the order. -/
def ixTo (fl : List GFlight) (gone : List Bool) (k : Nat) : List Int := (List.range gone.length).map fun i => if gone.getD i false = true then 0 else if rankI fl gone i < k then (rankI fl gone i : Int) else 0
/-- After the first k flights were looked at for being cancelled. -/
def ixTo2 (fl : List GFlight) (gone : List Bool) (k : Nat) : List Int := (List.range gone.length).map fun i => if gone.getD i false = true then (if i < k then -1 else 0) else (rankI fl gone i : Int)
theorem ixTo_len (fl : List GFlight) (gone : List Bool) (k : Nat) : (ixTo fl gone k).length = gone.length := by simp [ixTo]
theorem ixTo2_len (fl : List GFlight) (gone : List Bool) (k : Nat) : (ixTo2 fl gone k).length = gone.length := by simp [ixTo2]
theorem ixTo_zero (fl : List GFlight) (gone : List Bool) : ixTo fl gone 0 = List.replicate gone.length 0 := by
  unfold ixTo
  rw [List.eq_replicate_iff]
  refine ⟨by simp, fun x hx => ?_⟩
  obtain ⟨i, _, rfl⟩ := List.mem_map.1 hx
  split
  · rfl
  · rw [if_neg (by omega)]
theorem range_set (n i : Nat) (g h : Nat → Int) (x : Int) (hx : h i = x) (hh : ∀ j, j < n → j ≠ i → h j = g j) : ((List.range n).map g).set i x = (List.range n).map h := by
  apply List.ext_getElem?
  intro j
  rw [List.getElem?_set, List.getElem?_map, List.getElem?_map]
  by_cases hj : j < n
  · rw [List.getElem?_range hj]
    by_cases hij : i = j
    · subst hij
      rw [if_pos rfl, if_pos (by simpa using hj)]
      simp [hx]
    · rw [if_neg hij]
      simp [hh j hj (fun e => hij e.symm)]
  · rw [List.getElem?_eq_none (l := List.range n) (by simpa using hj)]
    by_cases hij : i = j
    · subst hij
      rw [if_pos rfl, if_neg (by simpa using hj)]
      rfl
    · rw [if_neg hij]
      rfl
theorem ixTo_set (fl : List GFlight) (gone : List Bool) {k : Nat} (hk : k < (orderI fl gone).length) : ∃ i : Nat, (orderI fl gone)[k] = i ∧ i < gone.length ∧ (ixTo fl gone k).set i k = ixTo fl gone (k + 1) := by
  obtain ⟨i, h1, h2, h3, h4⟩ := order_rank hk
  refine ⟨i, h1, h2, ?_⟩
  unfold ixTo
  refine range_set _ _ _ _ _ ?_ fun j hj hji => ?_
  · rw [h3, if_neg (by decide), if_pos (by omega), h4]
  · by_cases hg : gone.getD j false = true
    · rw [if_pos hg, if_pos hg]
    · rw [if_neg hg, if_neg hg]
      by_cases hr : rankI fl gone j = k
      · exfalso
        obtain ⟨q1, e1⟩ := order_at (fl := fl) (gone := gone) hj (by simpa using hg)
        simp only [hr] at e1
        rw [h1] at e1
        omega
      · by_cases hlt : rankI fl gone j < k
        · rw [if_pos (by omega), if_pos hlt]
        · rw [if_neg (by omega), if_neg hlt]
theorem ixTo_all (fl : List GFlight) (gone : List Bool) : ixTo fl gone (orderI fl gone).length = ixTo2 fl gone 0 := by
  unfold ixTo ixTo2
  refine List.map_congr_left fun i hi => ?_
  rw [List.mem_range] at hi
  by_cases hg : gone.getD i false = true
  · rw [if_pos hg, if_pos hg, if_neg (by omega)]
  · rw [if_neg hg, if_neg hg]
    obtain ⟨q1, _⟩ := order_at (fl := fl) (gone := gone) hi (by simpa using hg)
    rw [if_pos q1]
theorem ixTo2_gone (fl : List GFlight) (gone : List Bool) {k : Nat} (hg : gone.getD k false = true) : (ixTo2 fl gone k).set k (-1) = ixTo2 fl gone (k + 1) := by
  unfold ixTo2
  refine range_set _ _ _ _ _ ?_ fun j hj hji => ?_
  · rw [hg, if_pos rfl, if_pos (by omega)]
  · by_cases hlt : j < k
    · rw [if_pos (show j < k + 1 by omega), if_pos hlt]
    · rw [if_neg (show ¬ j < k + 1 by omega), if_neg hlt]
theorem ixTo2_left (fl : List GFlight) (gone : List Bool) {k : Nat} (hg : gone.getD k false = false) : ixTo2 fl gone k = ixTo2 fl gone (k + 1) := by
  unfold ixTo2
  refine List.map_congr_left fun j hj => ?_
  by_cases hjk : j = k
  · subst hjk
    rw [hg, if_neg (by decide), if_neg (by decide)]
  · by_cases hlt : j < k
    · rw [if_pos (show j < k + 1 by omega), if_pos hlt]
    · rw [if_neg (show ¬ j < k + 1 by omega), if_neg hlt]
theorem ixTo2_all (fl : List GFlight) (gone : List Bool) : ixTo2 fl gone gone.length = (List.range gone.length).map (indexI fl gone) := by
  unfold ixTo2
  refine List.map_congr_left fun j hj => ?_
  rw [List.mem_range] at hj
  unfold indexI
  by_cases hg : gone.getD j false = true
  · rw [if_pos hg, if_pos hg, if_pos hj]
  · rw [if_neg hg, if_neg hg]
theorem newFl_take (fl : List GFlight) (gone : List Bool) {k i : Nat} (hk : k < (orderI fl gone).length) (hi : (orderI fl gone)[k] = (i : Int)) : (newFl fl gone).take (k + 1) = (newFl fl gone).take k ++ [fl.getD i noFlight] := by
  have hl : k < (newFl fl gone).length := by unfold newFl; rw [List.length_map]; exact hk
  rw [List.take_succ_eq_append_getElem hl]
  congr 2
  have e : (newFl fl gone)[k] = fl.getD ((orderI fl gone)[k]).toNat noFlight := by simp [newFl]
  rw [e, hi]
  rfl
theorem newFl_len (fl : List GFlight) (gone : List Bool) : (newFl fl gone).length = (orderI fl gone).length := by unfold newFl; rw [List.length_map]
end Go.Proofs.YtifconapjfdkcaaGreatDoor
/-
  Blocks that stay but for some; slices that do not reach a box of slices.
  No condition.
-/
namespace Go.Proofs.YtifconapjfdkcaaGreatDoor
set_option linter.unusedSimpArgs false
set_option linter.unusedVariables false
open Go.RowKit

/-- Blocks ahead of lo stay, but for those in X. -/
structure Kx (X : Nat → Prop) (lo : Nat) (w w' : World) : Prop where
  os : w'.os = w.os
  tape : w'.tape = w.tape
  output : w'.output = w.output
  size : w.heap.size ≤ w'.heap.size
  block : ∀ q, q < lo → ¬ X q → w'.heap[q]? = w.heap[q]?
section
variable {w w' w'' : World} {X : Nat → Prop} {lo : Nat}
theorem Kx.refl (X : Nat → Prop) (lo : Nat) (w : World) : Kx X lo w w := ⟨rfl, rfl, rfl, Nat.le_refl _, fun _ _ _ => rfl⟩
theorem Kx.of_below (hb : Below w.heap.size w w') (hl : lo ≤ w.heap.size) : Kx X lo w w' := ⟨hb.os, hb.tape, hb.output, hb.size, fun q hq _ => hb.block q (by omega)⟩
theorem Kx.trans (h : Kx X lo w w') (h' : Kx X lo w' w'') : Kx X lo w w'' := ⟨h'.os.trans h.os, h'.tape.trans h.tape, h'.output.trans h.output, Nat.le_trans h.size h'.size, fun q a b => (h'.block q a b).trans (h.block q a b)⟩
theorem Kx.grown {row : Option Nat} (h : Kx X lo w w') (hg : w'.grownBy w'' row) (hr : ∀ k, row = some k → lo ≤ k ∨ X k) (hl : lo ≤ w'.heap.size) : Kx X lo w w'' :=
  ⟨hg.os.trans h.os, hg.tape.trans h.tape, hg.output.trans h.output, Nat.le_trans h.size hg.size, fun q a b => (hg.block q (by omega) (fun e => by
    rcases hr q e.symm with h9 | h9
    · omega
    · exact b h9)).trans (h.block q a b)⟩
theorem Kx.set (h : Kx X lo w w') {g : Nat} (hg : lo ≤ g ∨ X g) (j : Nat) (x : Value) : Kx X lo w (w'.setCell ⟨g, j, none⟩ x) :=
  ⟨h.os, h.tape, h.output, by simp; exact h.size, fun q a b => (heap_setCell_other _ _ _ _ (fun e => by
    have e : q = g := e
    subst e
    rcases hg with h9 | h9
    · omega
    · exact b h9)).trans (h.block q a b)⟩
theorem Kx.below {base : Nat} (h : Kx X lo w w') (hl : base ≤ lo) (hX : ∀ q, X q → base ≤ q) : Below base w w' := ⟨h.os, h.tape, h.output, h.size, fun q hq => h.block q (by omega) fun hx => by have := hX q hx; omega⟩
end
section
variable {w : World} {S : Nat → Prop} {A : Option Addr} {n c g : Nat} {a b d : Value} {T : TypeId}
/-- A box of three slices. -/
def SlBox (w : World) (g : Nat) : Prop := ∃ (cur : Array Value) (T : TypeId), w.heap[g]? = some (.cells cur T (0, 0)) ∧ ∀ (j : Nat) (u : Value), cur[j]? = some u → ∃ A n c, u = Value.slice A n c
theorem SlBox.cell (h : SlBox w g) {j : Nat} {u : Value} (hu : w.cell? ⟨g, j, none⟩ = some u) : ∃ A n c, u = .slice A n c := by
  obtain ⟨cur, T, h1, h2⟩ := h
  rw [block_cell h1] at hu
  exact h2 j u hu
theorem Sl.shift_off {xs : List GShift} (hg : SlBox w g) (h : Sl Ty.shift w S A n c xs) : Sl Ty.shift w (fun b => S b ∧ b ≠ g) A n c xs := by
  obtain ⟨h1, h2, h3, h4⟩ := h
  refine ⟨h1, h2, h3, fun hn => ?_⟩
  obtain ⟨b, o, e, hs, hx⟩ := h4 hn
  refine ⟨b, o, e, ⟨hs, fun e9 => ?_⟩, fun i x hi => ?_⟩
  · subst e9
    obtain ⟨cs, hr, ha⟩ := hx 0 _ (List.getElem?_eq_getElem (by omega))
    have hr' : cs = [.int .i64 xs[0].at_, .int .i64 xs[0].off] := hr
    subst hr'
    obtain ⟨A', n', c', e2⟩ := hg.cell (ha 0 _ rfl)
    cases e2
  · exact hx i x hi
theorem Sl.zone_off {xs : List GZone} (hg : SlBox w g) (h : Sl Ty.zone w S A n c xs) : Sl Ty.zone w (fun b => S b ∧ b ≠ g) A n c xs := by
  obtain ⟨h1, h2, h3, h4⟩ := h
  refine ⟨h1, h2, h3, fun hn => ?_⟩
  obtain ⟨b, o, e, hs, hx⟩ := h4 hn
  refine ⟨b, o, e, ⟨hs, fun e9 => ?_⟩, fun i x hi => ?_⟩
  · subst e9
    obtain ⟨cs, ⟨A', n', c', rfl, _⟩, ha⟩ := hx 0 _ (List.getElem?_eq_getElem (by omega))
    obtain ⟨A', n', c', e2⟩ := hg.cell (ha 0 _ rfl)
    cases e2
  · obtain ⟨cs, ⟨A', n', c', rfl, hsh⟩, ha⟩ := hx i x hi
    exact ⟨_, ⟨A', n', c', rfl, hsh.shift_off hg⟩, ha⟩
theorem Sl.airport_off {xs : List GAirport} (hg : SlBox w g) (h : Sl Ty.airport w S A n c xs) : Sl Ty.airport w (fun b => S b ∧ b ≠ g) A n c xs := by
  obtain ⟨h1, h2, h3, h4⟩ := h
  refine ⟨h1, h2, h3, fun hn => ?_⟩
  obtain ⟨b, o, e, hs, hx⟩ := h4 hn
  refine ⟨b, o, e, ⟨hs, fun e9 => ?_⟩, fun i x hi => ?_⟩
  · subst e9
    obtain ⟨cs, hr, ha⟩ := hx 0 _ (List.getElem?_eq_getElem (by omega))
    have hr' : cs = [.string xs[0].code, .string xs[0].zone] := hr
    subst hr'
    obtain ⟨A', n', c', e2⟩ := hg.cell (ha 0 _ rfl)
    cases e2
  · exact hx i x hi
theorem SlBox.three {A1 A2 A3 : Option Addr} {n1 n2 n3 c1 c2 c3 : Nat} (h : w.heap[g]? = some (.cells #[.slice A1 n1 c1, .slice A2 n2 c2, .slice A3 n3 c3] T (0, 0))) : SlBox w g := ⟨_, _, h, fun j u hu => by
  rcases j with _ | _ | _ | j
  · simp at hu; exact ⟨_, _, _, hu.symm⟩
  · simp at hu; exact ⟨_, _, _, hu.symm⟩
  · simp at hu; exact ⟨_, _, _, hu.symm⟩
  · simp at hu⟩
end
end Go.Proofs.YtifconapjfdkcaaGreatDoor
/-
  Plain laws of incidents: two delays are one of the sum; incidents of different flights may be applied in any order; the indexes name exactly the new flights.
  No condition.
-/
namespace Go.Proofs.YtifconapjfdkcaaGreatDoor
set_option linter.unusedSimpArgs false
set_option linter.unusedVariables false
open Go Go.RowKit

theorem getD_set_self {α : Type} {l : List α} {k : Nat} (h : k < l.length) (x d : α) : (l.set k x).getD k d = x := by
  rw [List.getD_eq_getElem?_getD, List.getElem?_set_self h]
  rfl
theorem getD_set_ne {α : Type} {l : List α} {k i : Nat} (h : k ≠ i) (x d : α) : (l.set k x).getD i d = l.getD i d := by
  rw [List.getD_eq_getElem?_getD, List.getD_eq_getElem?_getD, List.getElem?_set_ne h]
theorem getD_rep {α : Type} (n i : Nat) (x : α) : (List.replicate n x).getD i x = x := by
  rw [List.getD_eq_getElem?_getD, List.getElem?_replicate]
  split <;> rfl
theorem delayF_sum (f : GFlight) (a b : Int) : delayF (delayF f a) b = delayF f (a + b) := by
  unfold delayF
  simp only [Int.add_assoc]
def delayI (f m : Int) : GInc := ⟨1, f, m, noStr, 0, noShift⟩
theorem appAll_sum (t : GTT) (f a b : Int) (h : f.toNat < t.flights.length) : appAll t [delayI f a, delayI f b] = appAll t [delayI f (a + b)] := by
  have hg : (List.replicate t.flights.length false).getD f.toNat false = false := getD_rep _ _ _
  have e : ∀ (s : List GFlight) (m : Int), appSt (s, List.replicate t.flights.length false) (delayI f m) = (s.set f.toNat (delayF (s.getD f.toNat noFlight) m), List.replicate t.flights.length false) := fun s m => by
    unfold appSt delayI
    dsimp only
    rw [if_neg (by rw [hg]; decide), if_pos rfl]
  show appSt (appSt _ _) _ = appSt _ _
  rw [e, e, e, getD_set_self h, delayF_sum, List.set_set]
theorem applyP_sum (t : GTT) (f a b : Int) (h0 : 0 ≤ f) (h : f < t.flights.length) (ha : 1 ≤ a ∧ a ≤ 700) (hb : 1 ≤ b ∧ b ≤ 700) : applyP t [delayI f a, delayI f b] = applyP t [delayI f (a + b)] := by
  have hz : ∀ m : Int, 1 ≤ m → m ≤ 1400 → (if (delayI f m).kind < 1 ∨ 4 < (delayI f m).kind then 5 else if (delayI f m).kind = 4 then 0 else flightIncE t (delayI f m)) = 0 := fun m h1 h2 => by
    rw [if_neg (by show ¬ ((1 : Int) < 1 ∨ 4 < (1 : Int)); decide), if_neg (by show ¬ ((1 : Int) = 4); decide)]
    unfold flightIncE delayI
    dsimp only
    rw [if_neg (by omega), if_pos rfl, if_neg (by omega)]
  unfold applyP
  rw [firstErr_none (f := fun i => if ([delayI f a, delayI f b].getD i noInc).kind < 1 ∨ 4 < ([delayI f a, delayI f b].getD i noInc).kind then 5 else if ([delayI f a, delayI f b].getD i noInc).kind = 4 then 0 else flightIncE t ([delayI f a, delayI f b].getD i noInc)) (fun j hj => by
      have hj' : j < 2 := hj
      have : j = 0 ∨ j = 1 := by omega
      rcases this with rfl | rfl
      · exact hz a ha.1 (by omega)
      · exact hz b hb.1 (by omega)),
    firstErr_none (f := fun i => if ([delayI f (a + b)].getD i noInc).kind < 1 ∨ 4 < ([delayI f (a + b)].getD i noInc).kind then 5 else if ([delayI f (a + b)].getD i noInc).kind = 4 then 0 else flightIncE t ([delayI f (a + b)].getD i noInc)) (fun j hj => by
      have hj' : j < 1 := hj
      obtain rfl : j = 0 := by omega
      exact hz (a + b) (by omega) (by omega)),
    appAll_sum t f a b (by omega)]
end Go.Proofs.YtifconapjfdkcaaGreatDoor
/-
  Contract of incident.Apply.
  Condition: one to nineteen flights, few incidents.
-/
namespace Go.Proofs.YtifconapjfdkcaaGreatDoor
set_option linter.unusedSimpArgs false
set_option linter.unusedVariables false
open Go.RowKit

/-- The departures and arrivals stay small. -/
def smallF (k : Nat) (l : List GFlight) : Prop := ∀ f ∈ l, (0 ≤ f.dep ∧ f.dep ≤ 60000000 + 1440 * (k : Int)) ∧ (0 ≤ f.arr ∧ f.arr ≤ 60000000 + 1440 * (k : Int))
theorem smallF_start {t : GTT} (h : t.valid) : smallF 0 t.flights := fun f hf => by
  obtain ⟨k, hk, rfl⟩ := List.getElem_of_mem hf
  have h1 := (fErr_zero (h.f k hk)).1
  rw [show t.flights.getD k noFlight = t.flights[k] by rw [List.getD_eq_getElem?_getD, List.getElem?_eq_getElem hk]; rfl] at h1
  have a := h1.dep; have b := h1.arr; have c := h1.lt
  omega
theorem smallF_set {k : Nat} {l : List GFlight} (h : smallF k l) {i : Nat} {g : GFlight} (hg : (0 ≤ g.dep ∧ g.dep ≤ 60000000 + 1440 * ((k + 1 : Nat) : Int)) ∧ (0 ≤ g.arr ∧ g.arr ≤ 60000000 + 1440 * ((k + 1 : Nat) : Int))) : smallF (k + 1) (l.set i g) := fun f hf => by
  rcases List.mem_or_eq_of_mem_set hf with hm | rfl
  · have := h f hm
    omega
  · exact hg
theorem incE2_flight {t : GTT} {x : GInc} (h : incE2 t x = 0) : 1 ≤ x.kind ∧ x.kind ≤ 4 ∧ (x.kind ≠ 4 → flightIncE t x = 0) := by
  unfold incE2 at h
  split at h
  · exact absurd h (by decide)
  split at h
  · exact ⟨by omega, by omega, fun h4 => absurd (by assumption) h4⟩
  · exact ⟨by omega, by omega, fun _ => h⟩
theorem flightIncE_zero {t : GTT} {x : GInc} (h : flightIncE t x = 0) : 0 ≤ x.flight ∧ x.flight < t.flights.length ∧ (x.kind = 1 → 1 ≤ x.minutes ∧ x.minutes ≤ 1440) ∧ (x.kind = 3 → 0 ≤ x.minutes ∧ x.minutes ≤ 720) := by
  unfold flightIncE at h
  split at h
  · exact absurd h (by decide)
  rename_i hf
  refine ⟨by omega, by omega, fun h1 => ?_, fun h3 => ?_⟩
  · rw [if_pos h1] at h
    split at h
    · exact absurd h (by decide)
    · omega
  · rw [if_neg (by omega), if_pos h3] at h
    split at h
    · exact absurd h (by decide)
    split at h
    · exact absurd h (by decide)
    split at h
    · exact absurd h (by decide)
    · omega
theorem appSt_small {t : GTT} {x : GInc} {k : Nat} {s : List GFlight × List Bool} (h : incE2 t x = 0) (hs : smallF k s.1) (hl : s.1.length = t.flights.length) : smallF (k + 1) (appSt s x).1 := by
  obtain ⟨h1, h2, h3⟩ := incE2_flight h
  have hmono : smallF (k + 1) s.1 := fun f hf => by have := hs f hf; omega
  unfold appSt
  split
  · exact hmono
  rename_i hn
  have hz := flightIncE_zero (h3 (by omega))
  have hm : s.1.getD x.flight.toNat noFlight ∈ s.1 := getD_mem0 (by omega) noFlight
  have hf := hs _ hm
  split
  · rename_i hk
    have := hz.2.2.1 hk
    refine smallF_set hs ?_
    unfold delayF
    simp only
    omega
  split
  · exact hmono
  · have := hz.2.2.2 (by omega)
    refine smallF_set hs ?_
    unfold divertF
    simp only
    omega
theorem appTo_small {t : GTT} {l : List GInc} (hv : t.valid) (hz : ∀ i, i < l.length → incE2 t (l.getD i noInc) = 0) : ∀ k, k ≤ l.length → smallF k (appTo t l k).1
  | 0, _ => by rw [appTo_zero]; exact smallF_start hv
  | k + 1, hk => by
    rw [appTo_succ t l (by omega)]
    exact appSt_small (hz k (by omega)) (appTo_small hv hz k (by omega)) (appTo_len t l k (by omega)).1
theorem OwnS.bool_cell {el : TypeId} {w : World} {S : Nat → Prop} {base g n c : Nat} {xs : List Bool} (h : OwnS Ty.bool el w S base (.slice (some ⟨g, 0, none⟩) n c) xs) {k : Nat} (hk : k < xs.length) : w.cell? ⟨g, k, none⟩ = some (.bool (xs.getD k false)) := by
  obtain ⟨A, c', e, hs⟩ := h.sl
  injection e with e1 _ _
  subst e1
  obtain ⟨b, o, e2, -, hc⟩ := hs.bool_at hk
  cases e2
  rw [Nat.zero_add] at hc
  exact hc
theorem OwnS.int_cell {el : TypeId} {w : World} {S : Nat → Prop} {base g n c : Nat} {xs : List Int} (h : OwnS (Ty.int .i64) el w S base (.slice (some ⟨g, 0, none⟩) n c) xs) {k : Nat} (hk : k < xs.length) : w.cell? ⟨g, k, none⟩ = some (.int .i64 (xs.getD k 0)) := by
  obtain ⟨A, c', e, hs⟩ := h.sl
  injection e with e1 _ _
  subst e1
  obtain ⟨b, o, e2, -, hc⟩ := hs.int_at hk
  cases e2
  rw [Nat.zero_add] at hc
  rw [hc, List.getD_eq_getElem?_getD, List.getElem?_eq_getElem hk]
  rfl
theorem OwnS.flight_cells {el : TypeId} {w : World} {S : Nat → Prop} {base g n c : Nat} {xs : List GFlight} (h : OwnS Ty.flight el w S base (.slice (some ⟨g, 0, none⟩) n c) xs) {k : Nat} (hk : k < xs.length) : At w g (k * 9) (flightCells (xs.getD k noFlight)) := by
  obtain ⟨A, c', e, hs⟩ := h.sl
  injection e with e1 _ _
  subst e1
  obtain ⟨b, o, e2, -, hc⟩ := hs.flight_at hk
  cases e2
  rw [Nat.zero_add] at hc
  exact hc
theorem OwnS.free {α : Type} {t : Ty α} {el : TypeId} {w : World} {S : Nat → Prop} {base g n c : Nat} {xs : List α} (h : OwnS t el w S base (.slice (some ⟨g, 0, none⟩) n c) xs) (j : Nat) : w.frozen? ⟨g, j, none⟩ = false := by
  obtain ⟨cur, hb⟩ := h.block (k := g) rfl
  exact block_free hb j
theorem getD_any {α : Type} {l : List α} {k : Nat} (hk : k < l.length) (d d' : α) : l.getD k d = l.getD k d' := by
  rw [List.getD_eq_getElem?_getD, List.getD_eq_getElem?_getD, List.getElem?_eq_getElem hk]
  rfl
theorem appSt_skip {s : List GFlight × List Bool} {x : GInc} {fi : Nat} (hx : x.flight = (fi : Int)) (h : s.2.getD fi false = true) : appSt s x = s := by
  unfold appSt
  rw [hx, Int.toNat_natCast]
  exact if_pos (.inr h)
theorem appSt_delay {s : List GFlight × List Bool} {mi pe s1 s2 : Int} {ai : ByteArray} {fi : Nat} (h : s.2.getD fi false = false) : appSt s ⟨1, (fi : Int), mi, ai, pe, ⟨s1, s2⟩⟩ = (s.1.set fi (delayF (s.1.getD fi noFlight) mi), s.2) := by
  unfold appSt
  dsimp only
  rw [Int.toNat_natCast, if_neg (by rw [h]; decide), if_pos rfl]
theorem appSt_cancel {s : List GFlight × List Bool} {mi pe s1 s2 : Int} {ai : ByteArray} {fi : Nat} (h : s.2.getD fi false = false) : appSt s ⟨2, (fi : Int), mi, ai, pe, ⟨s1, s2⟩⟩ = (s.1, s.2.set fi true) := by
  unfold appSt
  dsimp only
  rw [Int.toNat_natCast, if_neg (by rw [h]; decide), if_neg (by decide), if_pos rfl]
theorem appSt_divert {s : List GFlight × List Bool} {mi pe s1 s2 : Int} {ai : ByteArray} {fi : Nat} (h : s.2.getD fi false = false) : appSt s ⟨3, (fi : Int), mi, ai, pe, ⟨s1, s2⟩⟩ = (s.1.set fi (divertF (s.1.getD fi noFlight) ai mi), s.2) := by
  unfold appSt
  dsimp only
  rw [Int.toNat_natCast, if_neg (by rw [h]; decide), if_neg (by decide), if_neg (by decide)]
theorem AP.setF2 {w : World} {tc : Array Value} {base : Nat} {wr : World} {vC : Value} {s : List GFlight × List Bool} {g n c : Nat} (h : AP w tc base wr (.slice (some ⟨g, 0, none⟩) n c) vC s) {k j : Nat} (hk : k < s.1.length) (hj : j < 9) {u : Value} {y : GFlight} (hy : (flightCells (s.1.getD k noFlight)).set j u = flightCells y) :
    AP w tc base (wr.setCell ⟨g, k * 9 + j, none⟩ u) (.slice (some ⟨g, 0, none⟩) n c) vC (s.1.set k y, s.2) := h.setF hk hj (by rw [getD_any hk y noFlight]; exact hy)
theorem AP.drew {w : World} {tc : Array Value} {base : Nat} {wr : World} {vF vC : Value} {s : List GFlight × List Bool} (h : AP w tc base wr vF vC s) : AP w tc base wr.drew vF vC s := h.next (below_drewN (Below.refl _ _) 1)
/-- What holds while the flights are put in order. -/
structure AZ (t : GTT) (w W V : World) (ib B3 n : Nat) (A B : Option Addr) (c d : Nat) (v3 : Value) (ix : List Int) (nf : List GFlight) : Prop where
  k : Kx (fun q => q = w.heap.size + 1 ∨ q = ib) B3 W V
  res : V.heap[w.heap.size + 1]? = some (.cells #[.slice A t.zones.length c, .slice B t.airports.length d, v3] 27 (0, 0))
  I : OwnS (Ty.int .i64) 3 V (fun _ => False) ib (.slice (some ⟨ib, 0, none⟩) n n) ix
  N : Own Ty.flight 62 V B3 v3 nf
  l : w.heap.size + 1 < ib ∧ ib < B3 ∧ B3 ≤ V.heap.size
/-- What each operation of the append's region leaves in its slot. -/
def azF (rb fb i lo : Nat) (v3 sl : Value) (f : GFlight) : Nat → Value → World → Prop
  | 0, v, _ => v = .pointer (some ⟨rb, 2, none⟩)
  | 1, v, _ => v = v3
  | 2, v, _ => v = sl
  | 3, v, _ => v = .int .i64 i
  | 4, v, _ => v = .pointer (some ⟨fb, i * 9, none⟩)
  | 5, v, _ => v = .agg (flightCells f).toArray
  | 6, v, w => ∃ g, v = .slice (some ⟨g, 0, none⟩) 1 1 ∧ lo ≤ g ∧ w.heap[g]? = some (.cells (flightCells f).toArray 62 (0, 0))
  | _, _, _ => True
theorem azF_keep {rb fb i lo : Nat} {v3 sl : Value} {f : GFlight} : ∀ (k : Nat) (v : Value) (w w' : World), azF rb fb i lo v3 sl f k v w → Below w.heap.size w w' → azF rb fb i lo v3 sl f k v w' := by
  intro k v w w' h hb
  unfold azF at h ⊢
  split at h <;> try exact h
  obtain ⟨g, e, h1, h2⟩ := h
  exact ⟨g, e, h1, (hb.block g (Array.getElem?_eq_some_iff.1 h2).1).trans h2⟩
theorem At.of_block {w : World} {g : Nat} {cs : List Value} {T : TypeId} (h : w.heap[g]? = some (.cells cs.toArray T (0, 0))) : At w g 0 cs := fun j u hu => by
  rw [block_cell h, Nat.zero_add]
  simpa using hu
section
variable {t : GTT} {w W wr w7 w8 V : World} {ib B3 n : Nat} {A B : Option Addr} {c d : Nat} {v3 v' : Value} {ix : List Int} {nf nf' : List GFlight}
theorem AZ.box8 (h : AZ t w W wr ib B3 n A B c d v3 ix nf) (hb : Below wr.heap.size wr w7) (hg : w7.grownBy w8 v3.ownBlock) : w8.heap[w.heap.size + 1]? = some (.cells #[.slice A t.zones.length c, .slice B t.airports.length d, v3] 27 (0, 0)) := by
  have h1 := (Array.getElem?_eq_some_iff.1 h.res).1
  have h2 := hb.size
  have h3 := h.l
  exact (hg.block _ (by omega) (fun e => by have := (h.N.lt _ e.symm).1; omega)).trans ((hb.block _ h1).trans h.res)
theorem AZ.push (h : AZ t w W wr ib B3 n A B c d v3 ix nf) (hb : Below wr.heap.size wr w7) (hg : w7.grownBy w8 v3.ownBlock) (hown : Own Ty.flight 62 w8 B3 v' nf') : AZ t w W (w8.setCell ⟨w.heap.size + 1, 2, none⟩ v') ib B3 n A B c d v' ix nf' := by
  have h2 := hb.size
  have h3 := h.l
  have h4 := hg.size
  have hk : ∀ q, q ≠ w.heap.size + 1 → (w8.setCell ⟨w.heap.size + 1, 2, none⟩ v').heap[q]? = w8.heap[q]? := fun q hq => heap_setCell_other _ _ _ _ hq
  refine ⟨((h.k.trans (Kx.of_below hb h.l.2.2)).grown hg (fun k hk => .inl (h.N.lt k hk).1) (by omega)).set (.inr (.inl rfl)) _ _, ?_, ?_, hown.flatC flat_flight fun q hq => hk q (by have := (hown.lt q hq).1; omega), h3.1, h3.2.1, by simp; omega⟩
  · have := heap_setCell_same w8 (w.heap.size + 1) 2 _ _ v' (h.box8 hb hg)
    rw [this]
    rfl
  · have hI7 := h.I.next hb fun _ h => h.elim
    refine hI7.keep (by simp; omega) (fun q hq => ?_) fun _ h => h.elim
    have hq' : q = ib := by
      injection hq with hq
      exact hq.symm
    subst hq'
    have := (hI7.lt q hq).2
    exact (hk q (by omega)).trans (hg.block q this fun e => by have := (h.N.lt q e.symm).1; omega)
theorem AZ.setI (h : AZ t w W V ib B3 n A B c d v3 ix nf) {i : Nat} (hi : i < ix.length) (x : Int) : AZ t w W (V.setCell ⟨ib, i, none⟩ (.int .i64 x)) ib B3 n A B c d v3 (ix.set i x) nf := by
  have h3 := h.l
  have hk : ∀ q, q ≠ ib → (V.setCell ⟨ib, i, none⟩ (.int .i64 x)).heap[q]? = V.heap[q]? := fun q hq => heap_setCell_other _ _ _ _ hq
  refine ⟨h.k.set (.inr (.inr rfl)) _ _, (hk _ (by omega)).trans h.res, ?_, h.N.flatC flat_flight fun q hq => hk q (by have := (h.N.lt q hq).1; omega), h3.1, h3.2.1, by simp; omega⟩
  have := h.I.setAt (t := Ty.int .i64) (j := 0) (u := .int .i64 x) (y := x) hi (show 0 < 1 by decide) (fun h => h) fun cs hr => by
    have hr' : cs = [.int .i64 (ix.getD i x)] := hr
    subst hr'
    rfl
  have e : i * (Ty.int .i64).size + 0 = i := by show i * 1 + 0 = i; omega
  rw [e] at this
  exact this
end
/-- What of a flight's being well formed does not speak of its times. -/
def szF (f : GFlight) : Prop := f.number.size ≤ maxLen ∧ f.src.size ≤ maxLen ∧ f.dst.size ≤ maxLen ∧ f.kind.size ≤ maxLen ∧ (-9223372036854775808 ≤ f.n0 ∧ f.n0 ≤ 9223372036854775807) ∧ (-9223372036854775808 ≤ f.n1 ∧ f.n1 ≤ 9223372036854775807) ∧ (-9223372036854775808 ≤ f.n2 ∧ f.n2 ≤ 9223372036854775807)
theorem szF_ok {f : GFlight} {k : Nat} (h : szF f) (hk : k ≤ 1000000) (h2 : (0 ≤ f.dep ∧ f.dep ≤ 60000000 + 1440 * (k : Int)) ∧ (0 ≤ f.arr ∧ f.arr ≤ 60000000 + 1440 * (k : Int))) : f.ok := by
  obtain ⟨a, b, c, d, e, g, i⟩ := h
  exact ⟨a, b, c, d, by omega, by omega, e, g, i⟩
theorem flightIncE_air {t : GTT} {x : GInc} (h : flightIncE t x = 0) (h3 : x.kind = 3) : hasB (aCodes t.airports) x.airport = true := by
  unfold flightIncE at h
  split at h
  · exact absurd h (by decide)
  rw [if_neg (show ¬ x.kind = 1 by omega)] at h
  try rw [if_pos h3] at h
  split at h
  · exact absurd h (by decide)
  · rename_i h9; simpa using h9
theorem appSt_sz {t : GTT} {x : GInc} {s : List GFlight × List Bool} (ht : t.ok) (h : incE2 t x = 0) (hs : ∀ f ∈ s.1, szF f) (hl : s.1.length = t.flights.length) : ∀ f ∈ (appSt s x).1, szF f := by
  obtain ⟨h1, h2, h3⟩ := incE2_flight h
  unfold appSt
  split
  · exact hs
  rename_i hn
  have h4 : x.kind ≠ 4 := fun e => hn (.inl e)
  have hz := flightIncE_zero (h3 h4)
  have hm : s.1.getD x.flight.toNat noFlight ∈ s.1 := getD_mem0 (by omega) noFlight
  have hf := hs _ hm
  split
  · intro f hf'
    rcases List.mem_or_eq_of_mem_set hf' with h9 | rfl
    · exact hs f h9
    · exact hf
  split
  · exact hs
  · have ha := flightIncE_air (h3 h4) (by omega)
    intro f hf'
    rcases List.mem_or_eq_of_mem_set hf' with h9 | rfl
    · exact hs f h9
    · obtain ⟨a, b, c, d, e⟩ := hf
      refine ⟨a, b, ?_, d, e⟩
      show x.airport.size ≤ maxLen
      rw [hasB_iff, aCodes, List.mem_map] at ha
      obtain ⟨p, hp, e9⟩ := ha
      rw [← e9]
      exact (ht.2.1 p hp).1
theorem appTo_sz {t : GTT} {l : List GInc} (ht : t.ok) (hz : ∀ i, i < l.length → incE2 t (l.getD i noInc) = 0) : ∀ k, k ≤ l.length → ∀ f ∈ (appTo t l k).1, szF f
  | 0, _ => by
    rw [appTo_zero]
    intro f hf
    obtain ⟨a, b, c, d, e, g, i⟩ := ht.2.2 f hf
    exact ⟨a, b, c, d, i⟩
  | k + 1, hk => by
    rw [appTo_succ t l (by omega)]
    exact appSt_sz ht (hz k (by omega)) (appTo_sz ht hz k (by omega)) (appTo_len t l k (by omega)).1
theorem newFl_mem {fl : List GFlight} {gone : List Bool} (he : gone.length = fl.length) {f : GFlight} (h : f ∈ newFl fl gone) : f ∈ fl := by
  unfold newFl at h
  obtain ⟨y, hy, rfl⟩ := List.mem_map.1 h
  obtain ⟨i, rfl, hi, _⟩ := leftI_mem.1 ((orderI_perm fl gone).mem_iff.1 hy)
  exact getD_mem0 (by rw [Int.toNat_natCast]; omega) noFlight
theorem newTT_ok {t : GTT} {fl : List GFlight} {gone : List Bool} {k : Nat} (ht : t.ok) (he : gone.length = fl.length) (h1 : smallF k fl) (h2 : ∀ f ∈ fl, szF f) (hk : k ≤ 1000000) : GTT.ok ⟨t.zones, t.airports, newFl fl gone⟩ :=
  ⟨ht.1, ht.2.1, fun f hf => szF_ok (h2 f (newFl_mem he hf)) hk (h1 f (newFl_mem he hf))⟩
/-- What Apply returns. -/
def ApplyPost (r : GTT × List Int × Int) (w : World) (e : Ending) (w' : World) : Prop :=
  ∃ A1 n1 c1 A2 n2 c2 A3 n3 c3 A4 n4 c4, e = .returned (.tuple #[.agg #[.slice A1 n1 c1, .slice A2 n2 c2, .slice A3 n3 c3], .slice A4 n4 c4, .int .i64 r.2.2]) ∧
    Sl Ty.zone w' (all_ w') A1 n1 c1 r.1.zones ∧ Sl Ty.airport w' (all_ w') A2 n2 c2 r.1.airports ∧ Sl Ty.flight w' (all_ w') A3 n3 c3 r.1.flights ∧ Sl (Ty.int .i64) w' (all_ w') A4 n4 c4 r.2.1 ∧ Below w.heap.size w w'
theorem apply_nil {w w' : World} {x : Int} (hb : Below w.heap.size w w') : ApplyPost (⟨[], [], []⟩, [], x) w (.returned (.tuple #[.agg #[.slice none 0 0, .slice none 0 0, .slice none 0 0], .slice none 0 0, .int .i64 x])) w' :=
  ⟨.none, 0, 0, .none, 0, 0, .none, 0, 0, .none, 0, 0, rfl, Sl.nil0, Sl.nil0, Sl.nil0, Sl.nil0, hb⟩
set_option maxRecDepth 100000 in
set_option maxHeartbeats 6400000 in
theorem apply_any (t : GTT) (l : List GInc) (A1 A2 A3 A5 : Option Addr) (n1 n2 n3 n5 c1 c2 c3 c5 : Nat) (w : World) (ht : t.ok) (hs1 : Sl Ty.zone w (all_ w) A1 n1 c1 t.zones) (hs2 : Sl Ty.airport w (all_ w) A2 n2 c2 t.airports) (hs3 : Sl Ty.flight w (all_ w) A3 n3 c3 t.flights) (hs5 : Sl Ty.inc w (all_ w) A5 n5 c5 l)
    (hf0 : 0 < t.flights.length) (hf1 : t.flights.length ≤ 19) (hl : l.length ≤ 1000000) (hz1 : t.zones.length ≤ 1000) (ha1 : t.airports.length ≤ 1000) (hsh : ∀ z ∈ t.zones, z.shifts.length ≤ 1000) :
    Calls Tryz.prog 19 #[.agg #[.slice A1 n1 c1, .slice A2 n2 c2, .slice A3 n3 c3], .slice A5 n5 c5] w (ApplyPost (applyP t l) w) := by
  have hn1 : n5 ≤ l.length := Nat.le_of_eq hs5.len
  have hn2 : l.length ≤ n5 := Nat.le_of_eq hs5.len.symm
  have hm1 : n3 ≤ t.flights.length := Nat.le_of_eq hs3.len
  have hm2 : t.flights.length ≤ n3 := Nat.le_of_eq hs3.len.symm
  have hb0 := ((Below.refl w.heap.size w).alloc (Nat.le_refl _) (.cells #[.slice A1 n1 c1, .slice A2 n2 c2, .slice A3 n3 c3] 27)).alloc (by simp) (.cells #[.slice none 0 0, .slice none 0 0, .slice none 0 0] 27)
  have hr0 := heap_alloc2_old w (.cells #[.slice A1 n1 c1, .slice A2 n2 c2, .slice A3 n3 c3] 27) (.cells #[.slice none 0 0, .slice none 0 0, .slice none 0 0] 27)
  have hr1 := heap_alloc2_new w (.cells #[.slice A1 n1 c1, .slice A2 n2 c2, .slice A3 n3 c3] 27) (.cells #[.slice none 0 0, .slice none 0 0, .slice none 0 0] 27)
  have hz0 : ((w.alloc (.cells #[.slice A1 n1 c1, .slice A2 n2 c2, .slice A3 n3 c3] 27)).alloc (.cells #[.slice none 0 0, .slice none 0 0, .slice none 0 0] 27)).heap.size = w.heap.size + 2 := by simp
  have HS1 : Hid (∀ V, Below w.heap.size w V → Sl Ty.zone V (all_ V) A1 n1 c1 t.zones) := fun V hV => hs1.next hV
  have HS2 : Hid (∀ V, Below w.heap.size w V → Sl Ty.airport V (all_ V) A2 n2 c2 t.airports) := fun V hV => hs2.next hV
  have HS3 : Hid (∀ V, Below w.heap.size w V → Sl Ty.flight V (all_ V) A3 n3 c3 t.flights) := fun V hV => hs3.next hV
  have HS5 : Hid (∀ V, Below w.heap.size w V → Sl Ty.inc V (all_ w) A5 n5 c5 l) := fun V hV => hs5.keep (all_keep hV)
  have HV := Lib.hid (validate_any t A1 A2 A3 n1 n2 n3 c1 c2 c3 _ ht (hs1.next hb0) (hs2.next hb0) (hs3.next hb0))
  have HT := Lib.hid ht; have HF0 := Lib.hid hf0; have HF1 := Lib.hid hf1; have HZ1 := Lib.hid hz1; have HA1 := Lib.hid ha1; have HSH := Lib.hid hsh
  have HB0 := Lib.hid hb0; have HR0 := Lib.hid hr0; have HR1 := Lib.hid hr1; have HZ0 := Lib.hid hz0
  have HP := Lib.hid (applyP_eq t l)
  clear hs1 hs2 hs3 hs5 hb0 hr0 hr1 hz0 ht hf0 hf1 hz1 ha1 hsh
  generalize applyP t l = res at *
  generalize hte : ttE t = te at *
  go_enter Tryz.func19, Tryz.ntmps19
  go_wp2_with fail
  generalize (w.alloc (.cells #[.slice A1 n1 c1, .slice A2 n2 c2, .slice A3 n3 c3] 27)).alloc (.cells #[.slice none 0 0, .slice none 0 0, .slice none 0 0] 27) = W at *
  refine HV.out.mono ?_
  clear HV
  rintro e w1 ⟨rfl, hb1⟩
  have hw1 : Below w.heap.size w w1 := HB0.out.trans (hb1.mono (by have := HZ0.out; omega))
  have HT0 : Hid (w1.heap[w.heap.size]? = _) := (hb1.block _ (by have := HZ0.out; omega)).trans HR0.out
  have HT1 : Hid (w1.heap[w.heap.size + 1]? = _) := (hb1.block _ (by have := HZ0.out; omega)).trans HR1.out
  have hsz1 : w.heap.size + 2 ≤ w1.heap.size := by have := HZ0.out; have := hb1.size; omega
  have HW1 := Lib.hid hw1
  clear hb1 HB0 HR0 HR1 HZ0 hw1
  have RET : Hid (∀ V : World, Below w.heap.size w V → V.heap[w.heap.size + 1]? = some (.cells #[.slice none 0 0, .slice none 0 0, .slice none 0 0] 27 (0, 0)) →
      ∀ a b c, Below w.heap.size w (((V.setCell ⟨w.heap.size + 1, 0, none⟩ a).setCell ⟨w.heap.size + 1, 1, none⟩ b).setCell ⟨w.heap.size + 1, 2, none⟩ c)) := fun V hV _ a b c =>
    ((hV.setCell (show w.heap.size ≤ w.heap.size + 1 by omega) _).setCell (show w.heap.size ≤ w.heap.size + 1 by omega) _).setCell (show w.heap.size ≤ w.heap.size + 1 by omega) _
  by_cases hc : te = 0
  case neg =>
    have hc' : (te != 0) = true := by simpa using hc
    have HF : Hid (res = (⟨[], [], []⟩, [], te)) := by show _ = _; rw [HP.out, if_pos hc]
    have f0 := block_free HT1.out 0; have f1 := block_free HT1.out 1; have f2 := block_free HT1.out 2
    have z0 := block_cell HT1.out 0; have z1 := block_cell HT1.out 1; have z2 := block_cell HT1.out 2
    clear hc
    go_wp2_with fail
    refine bodyPost_ret (v := .tuple #[.agg #[.slice none 0 0, .slice none 0 0, .slice none 0 0], .slice none 0 0, .int .i64 te]) (by simp [results, Tryz.results19, go_sem, z0, z1, z2]) rfl ?_
    rw [HF.out]
    exact apply_nil (RET.out _ HW1.out HT1.out _ _ _)
  have hc' : (te != 0) = false := by simpa using hc
  rw [if_neg (by simpa using hc)] at HP
  have hval : t.valid := ttE_zero.1 (hte.trans hc)
  have HVAL := Lib.hid hval
  subst hc
  clear hval hte
  go_wp2_with fail
  have hle5 : n5 ≤ 1000000 := by omega
  go_loopw [28] (fun s wr => ∃ k : Nat, k ≤ n5 ∧ s = .int .i64 k ∧ Below w.heap.size w wr ∧ w.heap.size + 2 ≤ wr.heap.size ∧ Hid (wr.heap[w.heap.size]? = some (.cells #[.slice A1 n1 c1, .slice A2 n2 c2, .slice A3 n3 c3] 27 (0, 0))) ∧
    Hid (wr.heap[w.heap.size + 1]? = some (.cells #[.slice none 0 0, .slice none 0 0, .slice none 0 0] 27 (0, 0))) ∧ Hid (zeroTo (fun i => incE2 t (l.getD i noInc)) k)) (fun s _ => n5 - (intOf s).toNat)
  case atStart => exact ⟨0, Nat.zero_le _, rfl, HW1.out, hsz1, HT0, HT1, zeroTo_zero _⟩
  case round =>
    obtain ⟨k, hk, rfl, hbr, hsz, HTA, HTB, HK⟩ := hrel
    clear HW1 HT0 HT1 hsz1
    by_cases hlt : k < n5
    · have hks : k < l.length := by omega
      obtain ⟨b, o, rfl, hbS, hat⟩ := (HS5.out wr hbr).inc_at hks
      have HE : Hid (∀ v : Int, incE2 t (l.getD k noInc) = v → v ≠ 0 → res = (⟨[], [], []⟩, [], v)) := fun v h1 h2 => by
        have hh := firstErr_hit (f := fun i => incE2 t (l.getD i noInc)) (k := k) HK.out (by show incE2 t (l.getD k noInc) ≠ 0; rw [h1]; exact h2) hks
        rw [HP.out, if_pos (by rw [hh]; show incE2 t (l.getD k noInc) ≠ 0; rw [h1]; exact h2), hh]
        show (_, _, incE2 t (l.getD k noInc)) = _
        rw [h1]
      have HM : Hid (incE2 t (l.getD k noInc) = 0 → zeroTo (fun i => incE2 t (l.getD i noInc)) (k + 1)) := fun h => zeroTo_succ HK.out h
      have z0 := hat 0 _ rfl; rw [Nat.add_zero] at z0
      have z1 := hat 1 _ rfl; have z2 := hat 2 _ rfl; have z3 := hat 3 _ rfl; have z4 := hat 4 _ rfl; have z5 := hat 5 _ rfl; have z6 := hat 6 _ rfl
      clear hat HK
      generalize l.getD k noInc = x at *
      obtain ⟨kind, fl, mi, ai, pe, ⟨s1, s2⟩⟩ := x
      simp only at z0 z1 z2 z3 z4 z5 z6
      have hbx := (Below.refl wr.heap.size wr).alloc (Nat.le_refl _) (.cells #[.int .i64 kind, .int .i64 fl, .int .i64 mi, .string ai, .int .i64 pe, .int .i64 s1, .int .i64 s2] 59)
      have hrx := heap_alloc_new wr (.cells #[.int .i64 kind, .int .i64 fl, .int .i64 mi, .string ai, .int .i64 pe, .int .i64 s1, .int .i64 s2] 59)
      have hzx : (wr.alloc (.cells #[.int .i64 kind, .int .i64 fl, .int .i64 mi, .string ai, .int .i64 pe, .int .i64 s1, .int .i64 s2] 59)).heap.size = wr.heap.size + 1 := by simp
      have HBX := Lib.hid hbx; have HRX := Lib.hid hrx; have HZX := Lib.hid hzx
      have hwx : Below w.heap.size w (wr.alloc (.cells #[.int .i64 kind, .int .i64 fl, .int .i64 mi, .string ai, .int .i64 pe, .int .i64 s1, .int .i64 s2] 59)) := hbr.trans (hbx.mono hbr.size)
      have HWX := Lib.hid hwx
      clear hbx hrx hzx hwx
      go_wp2_with fail
      generalize wr.alloc (.cells #[.int .i64 kind, .int .i64 fl, .int .i64 mi, .string ai, .int .i64 pe, .int .i64 s1, .int .i64 s2] 59) = X at *
      have HXA : Hid (X.heap[w.heap.size]? = _) := (HBX.out.block _ (by omega)).trans HTA.out
      have HXB : Hid (X.heap[w.heap.size + 1]? = _) := (HBX.out.block _ (by omega)).trans HTB.out
      clear z0 z1 z2 z3 z4 z5 z6
      have y0 := block_cell HRX.out 0; have y1 := block_cell HRX.out 1; have y2 := block_cell HRX.out 2; have y3 := block_cell HRX.out 3; have y4 := block_cell HRX.out 4; have y5 := block_cell HRX.out 5; have y6 := block_cell HRX.out 6
      refine (incKnown_any kind X).mono ?_
      rintro e w9 ⟨rfl, hX⟩
      rw [hX]
      clear hX w9
      by_cases hkk : 1 ≤ kind ∧ kind ≤ 4
      case neg =>
        have HF : Hid (res = (⟨[], [], []⟩, [], 5)) := HE.out 5 (by unfold incE2; exact if_pos (by show kind < 1 ∨ 4 < kind; omega)) (by decide)
        rw [decide_eq_false hkk]
        have f0 := block_free HXB.out 0; have f1 := block_free HXB.out 1; have f2 := block_free HXB.out 2
        have z0 := block_cell HXB.out 0; have z1 := block_cell HXB.out 1; have z2 := block_cell HXB.out 2
        clear hkk
        go_wp2_with fail
        refine bodyPost_ret (v := .tuple #[.agg #[.slice none 0 0, .slice none 0 0, .slice none 0 0], .slice none 0 0, .int .i64 5]) (by simp [results, Tryz.results19, go_sem, z0, z1, z2]) rfl ?_
        rw [HF.out]
        exact apply_nil (RET.out _ HWX.out HXB.out _ _ _)
      rw [decide_eq_true hkk]
      by_cases hk4 : kind = 4
      case pos =>
        subst hk4
        have HM2 := Lib.hid (HM.out (by unfold incE2; rw [if_neg (show ¬ ((4 : Int) < 1 ∨ 4 < (4 : Int)) by decide), if_pos rfl]))
        have hzx : w.heap.size + 2 ≤ X.heap.size := by have := HZX.out; omega
        clear hkk
        go_wp2_with fail
        go_roundw
        case rel => exact ⟨k + 1, by omega, by go_num, HWX.out, hzx, HXA, HXB, HM2⟩
        case measure => simp [intOf]; omega
      case neg =>
        have hk3 : 1 ≤ kind ∧ kind ≤ 3 := by omega
        have HI : Hid (incE2 t ⟨kind, fl, mi, ai, pe, ⟨s1, s2⟩⟩ = flightIncE t ⟨kind, fl, mi, ai, pe, ⟨s1, s2⟩⟩) := by
          show _ = _
          unfold incE2
          rw [if_neg (show ¬ (kind < 1 ∨ 4 < kind) by omega), if_neg hk4]
        have hk4' : (kind == 4) = false := by simpa using hk4
        have HC := Lib.hid (incFlight_any t ⟨kind, fl, mi, ai, pe, ⟨s1, s2⟩⟩ A1 A2 A3 n1 n2 n3 c1 c2 c3 X (HS2.out X HWX.out) (HS3.out X HWX.out) hk3)
        have x0 := block_cell HXA.out 0; have x1 := block_cell HXA.out 1; have x2 := block_cell HXA.out 2
        generalize flightIncE t ⟨kind, fl, mi, ai, pe, ⟨s1, s2⟩⟩ = fe at *
        clear hk4
        go_wp2_with fail
        refine HC.out.mono ?_
        rintro e w2 ⟨rfl, hb2⟩
        have HE2 : Hid (Below w.heap.size w w2) := HWX.out.trans (hb2.mono HWX.out.size)
        have HYA : Hid (w2.heap[w.heap.size]? = _) := (hb2.block _ (by have := HZX.out; omega)).trans HXA.out
        have HYB : Hid (w2.heap[w.heap.size + 1]? = _) := (hb2.block _ (by have := HZX.out; omega)).trans HXB.out
        by_cases hfe : fe = 0
        case neg =>
          have hfe' : (fe != 0) = true := by simpa using hfe
          have HF : Hid (res = (⟨[], [], []⟩, [], fe)) := HE.out fe HI.out hfe
          have f0 := block_free HYB.out 0; have f1 := block_free HYB.out 1; have f2 := block_free HYB.out 2
          have z0 := block_cell HYB.out 0; have z1 := block_cell HYB.out 1; have z2 := block_cell HYB.out 2
          clear hfe hb2 HC
          go_wp2_with fail
          refine bodyPost_ret (v := .tuple #[.agg #[.slice none 0 0, .slice none 0 0, .slice none 0 0], .slice none 0 0, .int .i64 fe]) (by simp [results, Tryz.results19, go_sem, z0, z1, z2]) rfl ?_
          rw [HF.out]
          exact apply_nil (RET.out _ HE2.out HYB.out _ _ _)
        have hfe' : (fe != 0) = false := by simpa using hfe
        have HM2 := Lib.hid (HM.out (HI.out.trans hfe))
        have hzx : w.heap.size + 2 ≤ w2.heap.size := by have := HZX.out; have := hb2.size; omega
        subst hfe
        clear hkk hk3 hb2 HC y0 y1 y2 y3 y4 y5 y6 x0 x1 x2
        go_wp2_with fail
        go_roundw
        case rel => exact ⟨k + 1, by omega, by go_num, HE2.out, hzx, HYA, HYB, HM2⟩
        case measure => simp [intOf]; omega
    · have HZ : Hid (∀ i, i < l.length → incE2 t (l.getD i noInc) = 0) := fun i hi => HK.out i (by omega)
      have HP2 : Hid (res = if ttE (newTT t l) ≠ 0 then (⟨[], [], []⟩, [], ttE (newTT t l)) else (newTT t l, indexL t l, 0)) := by
        show _ = _
        rw [HP.out, if_neg (by rw [firstErr_none (f := fun i => incE2 t (l.getD i noInc)) HZ.out]; simp)]
      clear HP HK
      have x0 := block_cell HTA.out 0; have x1 := block_cell HTA.out 1; have x2 := block_cell HTA.out 2
      have HCL := Lib.hid (cloneFlight_any A3 n3 c3 t.flights wr (HS3.out wr hbr) (by have := HF1.out; omega))
      go_wp2_with fail
      refine HCL.out.mono ?_
      rintro e w2 ⟨vF, rfl, hoF, hb2⟩
      obtain ⟨Af, cf, rfl, -⟩ := hoF.sl
      clear HCL x0 x1 x2
      have hsz2 : wr.heap.size ≤ w2.heap.size := hb2.size
      have HW2 : Hid (Below w.heap.size w w2) := hbr.trans (hb2.mono hbr.size)
      have HTA2 : Hid (w2.heap[w.heap.size]? = _) := (hb2.block _ (by omega)).trans HTA.out
      have HTB2 : Hid (w2.heap[w.heap.size + 1]? = _) := (hb2.block _ (by omega)).trans HTB.out
      have hlen1 : t.flights.length ≤ 19 := HF1.out
      have HOF := Lib.hid hoF
      have HLF := Lib.hid hoF.lt
      clear hb2 HTA HTB hbr hoF
      have HAP : Hid (AP w #[.slice A1 n1 c1, .slice A2 n2 c2, .slice A3 n3 c3] wr.heap.size (w2.alloc (.cells (madeCells #[.bool false] t.flights.length) 4)) (.slice Af t.flights.length cf) (.slice (some ⟨w2.heap.size, 0, none⟩) t.flights.length t.flights.length) (appTo t l 0)) := by
        have hba := (Below.refl w2.heap.size w2).alloc (Nat.le_refl _) (.cells (madeCells #[.bool false] t.flights.length) 4)
        refine ⟨(hba.block _ (by omega)).trans HTA2.out, (hba.block _ (by omega)).trans HTB2.out, ?_, OwnS.made (t := Ty.bool) rfl (fun _ _ => rfl) (by omega) (by unfold maxLen; omega), HW2.out.trans (hba.mono HW2.out.size), by omega⟩
        obtain ⟨cs, g1, g2⟩ := HOF.out
        exact OwnS.next (show OwnS Ty.flight 62 w2 (fun _ => False) wr.heap.size (.slice Af t.flights.length cf) t.flights from ⟨cs, g1, g2.flat flat_flight⟩) hba fun _ h => h.elim
      clear HOF HTA2 HTB2 HW2
      have hmk := fun w => run_make_row' (P := Tryz.prog) 55 4 (.bool false) 1 Tryz.underlying55 (by kernel_rfl) rfl .i64 .i64 t.flights.length (by omega) (by omega) w
      go_wp2_with fail
      clear hmk
      obtain ⟨fb, cf', curF, eF, hfb0, hfb1, -⟩ := HAP.out.F.ownAt (by rw [(appTo_len t l 0 (Nat.zero_le _)).1]; exact HF0.out)
      cases eF
      have HFB : Hid (wr.heap.size ≤ fb ∧ fb < w2.heap.size) := HLF.out fb rfl
      clear HLF hfb1 curF
      generalize hB0 : wr.heap.size = B0 at *
      generalize hCB : w2.heap.size = cb at *
      go_loopw [56] (fun s wr => ∃ k : Nat, k ≤ n5 ∧ s = .int .i64 k ∧ AP w #[.slice A1 n1 c1, .slice A2 n2 c2, .slice A3 n3 c3] B0 wr (.slice (some ⟨fb, 0, none⟩) t.flights.length cf) (.slice (some ⟨cb, 0, none⟩) t.flights.length t.flights.length) (appTo t l k)) (fun s _ => n5 - (intOf s).toNat)
      case atStart => exact ⟨0, Nat.zero_le _, rfl, HAP.out⟩
      case round =>
        obtain ⟨q, hq, rfl, hap⟩ := hrel
        clear HAP
        by_cases hlt2 : q < n5
        · have hqs : q < l.length := by omega
          have HNX := Lib.hid (appTo_succ t l hqs)
          have HLE := Lib.hid (appTo_len t l q (by omega))
          have HSM := Lib.hid (appTo_small HVAL.out HZ.out q (by omega))
          have HZQ := Lib.hid (HZ.out q hqs)
          obtain ⟨b5, o5, rfl, hbS5, hat5⟩ := (HS5.out wr hap.bel).inc_at hqs
          have z0 := hat5 0 _ rfl; rw [Nat.add_zero] at z0
          have z1 := hat5 1 _ rfl; have z2 := hat5 2 _ rfl; have z3 := hat5 3 _ rfl; have z4 := hat5 4 _ rfl; have z5 := hat5 5 _ rfl; have z6 := hat5 6 _ rfl
          clear hat5
          generalize l.getD q noInc = x at *
          generalize hS : appTo t l q = S at *
          generalize hS2 : appTo t l (q + 1) = S2 at *
          obtain ⟨kind, fl, mi, ai, pe, ⟨s1, s2⟩⟩ := x
          simp only at z0 z1 z2 z3 z4 z5 z6
          have HBX := Lib.hid ((Below.refl wr.heap.size wr).alloc (Nat.le_refl _) (.cells #[.int .i64 kind, .int .i64 fl, .int .i64 mi, .string ai, .int .i64 pe, .int .i64 s1, .int .i64 s2] 59))
          have HRX := Lib.hid (heap_alloc_new wr (.cells #[.int .i64 kind, .int .i64 fl, .int .i64 mi, .string ai, .int .i64 pe, .int .i64 s1, .int .i64 s2] 59))
          have HAX := Lib.hid (hap.next HBX.out)
          have HAW : Hid (cb < wr.heap.size) := (hap.C.lt cb rfl).2
          have HSA : Hid (∀ V, AP w #[.slice A1 n1 c1, .slice A2 n2 c2, .slice A3 n3 c3] B0 V (.slice (some ⟨fb, 0, none⟩) t.flights.length cf) (.slice (some ⟨cb, 0, none⟩) t.flights.length t.flights.length) S → appSt S ⟨kind, fl, mi, ai, pe, ⟨s1, s2⟩⟩ = S → AP w #[.slice A1 n1 c1, .slice A2 n2 c2, .slice A3 n3 c3] B0 V (.slice (some ⟨fb, 0, none⟩) t.flights.length cf) (.slice (some ⟨cb, 0, none⟩) t.flights.length t.flights.length) S2) := fun V hV e => by rw [HNX.out, e]; exact hV
          by_cases hk4 : kind = 4
          · subst hk4
            have HEQ : Hid (appSt S ⟨4, fl, mi, ai, pe, ⟨s1, s2⟩⟩ = S) := by show _ = _; unfold appSt; exact if_pos (.inl rfl)
            clear hap
            go_wp2_with fail
            go_roundw
            case rel => exact ⟨q + 1, by omega, by go_num, by rw [hS2]; exact HSA.out _ HAX.out HEQ.out⟩
            case measure => simp [intOf]; omega
          obtain ⟨hI1, hI2, hI3⟩ := incE2_flight HZQ.out
          have hz := flightIncE_zero (hI3 hk4)
          simp only at hI1 hI2 hI3 hz
          obtain ⟨hz1, hz2, hz3, hz4⟩ := hz
          obtain ⟨fi, rfl⟩ := Int.eq_ofNat_of_zero_le hz1
          have hfi : fi < t.flights.length := by omega
          have HL1 : Hid (fi < S.1.length) := by show _ < _; rw [HLE.out.1]; exact hfi
          have HL2 : Hid (fi < S.2.length) := by show _ < _; rw [HLE.out.2]; exact hfi
          have zc := HAX.out.C.bool_cell HL2.out
          have hk4' : (kind == 4) = false := by simpa using hk4
          cases hg : S.2.getD fi false with
          | true =>
            rw [hg] at zc
            have HEQ : Hid (appSt S ⟨kind, (fi : Int), mi, ai, pe, ⟨s1, s2⟩⟩ = S) := appSt_skip (fi := fi) rfl hg
            clear hap hg hI3 hz3 hz4
            go_wp2_with fail
            go_roundw
            case rel => exact ⟨q + 1, by omega, by go_num, by rw [hS2]; exact HSA.out _ HAX.out HEQ.out⟩
            case measure => simp [intOf]; omega
          | false =>
            rw [hg] at zc
            have HG := Lib.hid hg
            have HFM : Hid ((0 ≤ (S.1.getD fi noFlight).dep ∧ (S.1.getD fi noFlight).dep ≤ 60000000 + 1440 * (q : Int)) ∧ (0 ≤ (S.1.getD fi noFlight).arr ∧ (S.1.getD fi noFlight).arr ≤ 60000000 + 1440 * (q : Int))) := HSM.out _ (getD_mem0 HL1.out noFlight)
            have hqb : q ≤ 1000000 := by omega
            clear hap hg
            have hk3 : kind = 1 ∨ kind = 2 ∨ kind = 3 := by omega
            rcases hk3 with rfl | rfl | rfl
            · have hmi := hz3 rfl
              have HEQ := Lib.hid (HNX.out.trans (appSt_delay HG.out))
              clear hI3 hz3 hz4 hI1 hI2
              go_upto_region 23 with (fail)
              generalize wr.alloc (.cells #[.int .i64 1, .int .i64 (fi : Int), .int .i64 mi, .string ai, .int .i64 pe, .int .i64 s1, .int .i64 s2] 59) = X at *
              clear zc z0 z1 z2 z3 z4 z5 z6
              have HCF := Lib.hid (HAX.out.F.flight_cells HL1.out)
              generalize hf : S.1.getD fi noFlight = f at *
              have d3 : X.cell? ⟨fb, fi * 9 + 3, none⟩ = some (.int .i64 f.dep) := HCF.out 3 _ rfl
              have y2 : X.cell? ⟨wr.heap.size, 2, none⟩ = some (.int .i64 mi) := block_cell HRX.out 2
              have fr3 : X.frozen? ⟨fb, fi * 9 + 3, none⟩ = false := HAX.out.F.free _
              have HY : Hid (AP w #[.slice A1 n1 c1, .slice A2 n2 c2, .slice A3 n3 c3] B0 (X.setCell ⟨fb, fi * 9 + 3, none⟩ (.int .i64 (wrap64 (f.dep + mi)))).drew (.slice (some ⟨fb, 0, none⟩) t.flights.length cf) (.slice (some ⟨cb, 0, none⟩) t.flights.length t.flights.length) (S.1.set fi { f with dep := f.dep + mi }, S.2)) := by
                have hfm := HFM.out
                show AP _ _ _ _ _ _ _
                rw [IntWalk.wrap64_in (f.dep + mi) ⟨by omega, by omega⟩]
                exact (HAX.out.setF2 HL1.out (show 3 < 9 by decide) (by rw [hf]; rfl)).drew
              have HYX : Hid ((X.setCell ⟨fb, fi * 9 + 3, none⟩ (.int .i64 (wrap64 (f.dep + mi)))).drew.heap[wr.heap.size]? = X.heap[wr.heap.size]?) := heap_setCell_other _ _ _ _ (by show wr.heap.size ≠ fb; have := HFB.out; have := HAW.out; omega)
              refine wp_region_still_tail 9 (by kernel_rfl) (by kernel_rfl) ?_
              simp only [List.take_succ_cons, List.take_zero, List.drop_succ_cons, List.drop_zero]
              change wpStill _ _ X.drew (fun a' => wpList _ _ _ _ a' X.drew) _ _
              repeat still_step
              refine wpStill_nil ?_
              go_upto_region 24 with (fail)
              generalize (X.setCell ⟨fb, fi * 9 + 3, none⟩ (.int .i64 (wrap64 (f.dep + mi)))).drew = Y at *
              clear d3 y2 fr3
              have hcf2 := HY.out.F.flight_cells (k := fi) (by rw [List.length_set]; exact HL1.out)
              rw [getD_set_self HL1.out] at hcf2
              have d4 : Y.cell? ⟨fb, fi * 9 + 4, none⟩ = some (.int .i64 f.arr) := hcf2 4 _ rfl
              have y2 : Y.cell? ⟨wr.heap.size, 2, none⟩ = some (.int .i64 mi) := block_cell (HYX.out.trans HRX.out) 2
              have fr4 : Y.frozen? ⟨fb, fi * 9 + 4, none⟩ = false := HY.out.F.free _
              have HV : Hid (AP w #[.slice A1 n1 c1, .slice A2 n2 c2, .slice A3 n3 c3] B0 (Y.setCell ⟨fb, fi * 9 + 4, none⟩ (.int .i64 (wrap64 (f.arr + mi)))).drew (.slice (some ⟨fb, 0, none⟩) t.flights.length cf) (.slice (some ⟨cb, 0, none⟩) t.flights.length t.flights.length) S2) := by
                have hfm := HFM.out
                show AP _ _ _ _ _ _ _
                rw [IntWalk.wrap64_in (f.arr + mi) ⟨by omega, by omega⟩, HEQ.out]
                have := (HY.out.setF2 (k := fi) (y := delayF f mi) (u := .int .i64 (f.arr + mi)) (by rw [List.length_set]; exact HL1.out) (show 4 < 9 by decide) (by rw [getD_set_self HL1.out]; rfl)).drew
                rw [List.set_set] at this
                exact this
              clear hcf2 HCF
              refine wp_region_still_tail 9 (by kernel_rfl) (by kernel_rfl) ?_
              simp only [List.take_succ_cons, List.take_zero, List.drop_succ_cons, List.drop_zero]
              change wpStill _ _ Y.drew (fun a' => wpList _ _ _ _ a' Y.drew) _ _
              repeat still_step
              refine wpStill_nil ?_
              go_wp2_with fail
              go_roundw
              case rel => exact ⟨q + 1, by omega, by go_num, by rw [hS2]; exact HV.out⟩
              case measure => simp [intOf]; omega
            · have HEQ := Lib.hid (HNX.out.trans (appSt_cancel HG.out))
              have frc := HAX.out.C.free fi
              have HV : Hid (AP w #[.slice A1 n1 c1, .slice A2 n2 c2, .slice A3 n3 c3] B0 ((wr.alloc (.cells #[.int .i64 2, .int .i64 (fi : Int), .int .i64 mi, .string ai, .int .i64 pe, .int .i64 s1, .int .i64 s2] 59)).setCell ⟨cb, fi, none⟩ (.bool true)) (.slice (some ⟨fb, 0, none⟩) t.flights.length cf) (.slice (some ⟨cb, 0, none⟩) t.flights.length t.flights.length) S2) := by
                show AP _ _ _ _ _ _ _
                rw [HEQ.out]
                exact HAX.out.setC HL2.out
              clear hI3 hz3 hz4 hI1 hI2
              go_wp2_with fail
              go_roundw
              case rel => exact ⟨q + 1, by omega, by go_num, by rw [hS2]; exact HV.out⟩
              case measure => simp [intOf]; omega
            · have hmi := hz4 rfl
              have HEQ := Lib.hid (HNX.out.trans (appSt_divert HG.out))
              clear hI3 hz3 hz4 hI1 hI2
              have HCF0 := Lib.hid (HAX.out.F.flight_cells HL1.out)
              have d2 := HCF0.out 2 _ rfl
              have fr2 := HAX.out.F.free (fi * 9 + 2)
              go_upto_region 27 with (fail)
              clear d2 fr2 HCF0
              have HY : Hid (AP w #[.slice A1 n1 c1, .slice A2 n2 c2, .slice A3 n3 c3] B0 ((wr.alloc (.cells #[.int .i64 3, .int .i64 (fi : Int), .int .i64 mi, .string ai, .int .i64 pe, .int .i64 s1, .int .i64 s2] 59)).setCell ⟨fb, fi * 9 + 2, none⟩ (.string ai)) (.slice (some ⟨fb, 0, none⟩) t.flights.length cf) (.slice (some ⟨cb, 0, none⟩) t.flights.length t.flights.length) (S.1.set fi { (S.1.getD fi noFlight) with dst := ai }, S.2)) :=
                HAX.out.setF2 HL1.out (show 2 < 9 by decide) rfl
              have HYX : Hid (((wr.alloc (.cells #[.int .i64 3, .int .i64 (fi : Int), .int .i64 mi, .string ai, .int .i64 pe, .int .i64 s1, .int .i64 s2] 59)).setCell ⟨fb, fi * 9 + 2, none⟩ (.string ai)).heap[wr.heap.size]? = (wr.alloc (.cells #[.int .i64 3, .int .i64 (fi : Int), .int .i64 mi, .string ai, .int .i64 pe, .int .i64 s1, .int .i64 s2] 59)).heap[wr.heap.size]?) := heap_setCell_other _ _ _ _ (by show wr.heap.size ≠ fb; have := HFB.out; have := HAW.out; omega)
              have HYR := Lib.hid (HYX.out.trans HRX.out)
              clear HYX HRX HAX zc z0 z1 z2 z3 z4 z5 z6 HBX
              generalize (wr.alloc (.cells #[.int .i64 3, .int .i64 (fi : Int), .int .i64 mi, .string ai, .int .i64 pe, .int .i64 s1, .int .i64 s2] 59)).setCell ⟨fb, fi * 9 + 2, none⟩ (.string ai) = Y at *
              generalize hf : S.1.getD fi noFlight = f at *
              have hcf2 := HY.out.F.flight_cells (k := fi) (by rw [List.length_set]; exact HL1.out)
              rw [getD_set_self HL1.out] at hcf2
              have d4 : Y.cell? ⟨fb, fi * 9 + 4, none⟩ = some (.int .i64 f.arr) := hcf2 4 _ rfl
              have y2 : Y.cell? ⟨wr.heap.size, 2, none⟩ = some (.int .i64 mi) := block_cell HYR.out 2
              have fr4 : Y.frozen? ⟨fb, fi * 9 + 4, none⟩ = false := HY.out.F.free _
              have HV : Hid (AP w #[.slice A1 n1 c1, .slice A2 n2 c2, .slice A3 n3 c3] B0 (Y.setCell ⟨fb, fi * 9 + 4, none⟩ (.int .i64 (wrap64 (f.arr + mi)))).drew (.slice (some ⟨fb, 0, none⟩) t.flights.length cf) (.slice (some ⟨cb, 0, none⟩) t.flights.length t.flights.length) S2) := by
                have hfm := HFM.out
                show AP _ _ _ _ _ _ _
                rw [IntWalk.wrap64_in (f.arr + mi) ⟨by omega, by omega⟩, HEQ.out]
                have := (HY.out.setF2 (k := fi) (y := divertF f ai mi) (u := .int .i64 (f.arr + mi)) (by rw [List.length_set]; exact HL1.out) (show 4 < 9 by decide) (by rw [getD_set_self HL1.out]; rfl)).drew
                rw [List.set_set] at this
                exact this
              clear hcf2
              refine wp_region_still_tail 9 (by kernel_rfl) (by kernel_rfl) ?_
              simp only [List.take_succ_cons, List.take_zero, List.drop_succ_cons, List.drop_zero]
              change wpStill _ _ Y.drew (fun a' => wpList _ _ _ _ a' Y.drew) _ _
              repeat still_step
              refine wpStill_nil ?_
              go_wp2_with fail
              go_roundw
              case rel => exact ⟨q + 1, by omega, by go_num, by rw [hS2]; exact HV.out⟩
              case measure => simp [intOf]; omega
        · obtain rfl : q = l.length := by omega
          have HLE := Lib.hid (appTo_len t l l.length (Nat.le_refl _))
          have HSM := Lib.hid (appTo_small HVAL.out HZ.out l.length (Nat.le_refl _))
          have HSZ := Lib.hid (appTo_sz HT.out HZ.out l.length (Nat.le_refl _))
          rw [appTo_all] at HLE HSM hap HSZ
          have HFL0 : Hid (newTT t l = ⟨t.zones, t.airports, newFl (appAll t l).1 (appAll t l).2⟩ ∧ indexL t l = (List.range t.flights.length).map (indexI (appAll t l).1 (appAll t l).2)) := ⟨rfl, rfl⟩
          generalize newTT t l = NT at *
          generalize indexL t l = NI at *
          generalize appAll t l = S at *
          obtain ⟨fl, gone⟩ := S
          simp only at HLE HSM HFL0 HSZ
          have x0 := block_cell hap.t 0; have x1 := block_cell hap.t 1; have x2 := block_cell hap.t 2
          have HCP := Lib.hid (copyPlaces_any t A1 A2 A3 n1 n2 n3 c1 c2 c3 wr (HS1.out wr hap.bel) (HS2.out wr hap.bel) HZ1.out HA1.out HSH.out)
          have HAP := Lib.hid hap
          have hrb := (Array.getElem?_eq_some_iff.1 hap.res).1
          clear hap
          go_wp2_with fail
          refine HCP.out.mono ?_
          rintro e w3 ⟨A, c, B, d, rfl, hsz3, hsa3, hb3⟩
          clear HCP x0 x1 x2
          have HA3 := Lib.hid (HAP.out.next hb3)
          have HX3 := Lib.hid (SlBox.three (HAP.out.next hb3).res)
          have HZ3 := Lib.hid (hsz3.zone_off HX3.out)
          have HP3 := Lib.hid (hsa3.airport_off HX3.out)
          clear hsz3 hsa3 HAP
          have hrb3 : w.heap.size + 1 < w3.heap.size := Nat.lt_of_lt_of_le hrb hb3.size
          have HW4 : Hid (∀ V : World, (∀ b, b ≠ w.heap.size + 1 → V.heap[b]? = w3.heap[b]?) → V.heap.size = w3.heap.size → Below w.heap.size w V → 
              Sl Ty.zone V (fun b => b < w3.heap.size ∧ b ≠ w.heap.size + 1) A t.zones.length c t.zones ∧ Sl Ty.airport V (fun b => b < w3.heap.size ∧ b ≠ w.heap.size + 1) B t.airports.length d t.airports ∧
              OwnS Ty.flight 62 V (fun _ => False) B0 (.slice (some ⟨fb, 0, none⟩) t.flights.length cf) fl ∧ OwnS Ty.bool 4 V (fun _ => False) B0 (.slice (some ⟨cb, 0, none⟩) t.flights.length t.flights.length) gone) := fun V hk hs hb => by
            refine ⟨HZ3.out.keep fun b hb => hk b hb.2, HP3.out.keep fun b hb => hk b hb.2, HA3.out.F.keep (by omega) (fun q hq => hk q ?_) (fun _ h => h.elim), HA3.out.C.keep (by omega) (fun q hq => hk q ?_) (fun _ h => h.elim)⟩
            · have := (HA3.out.F.lt q hq).1; have := HA3.out.l; omega
            · have := (HA3.out.C.lt q hq).1; have := HA3.out.l; omega
          have HB4 : Hid (∀ a b g, Below w.heap.size w (((w3.setCell ⟨w.heap.size + 1, 0, none⟩ a).setCell ⟨w.heap.size + 1, 1, none⟩ b).setCell ⟨w.heap.size + 1, 2, none⟩ g)) := fun a b g => ((HA3.out.bel.setCell (show w.heap.size ≤ w.heap.size + 1 by omega) _).setCell (show w.heap.size ≤ w.heap.size + 1 by omega) _).setCell (show w.heap.size ≤ w.heap.size + 1 by omega) _
          have HR4 : Hid ((((w3.setCell ⟨w.heap.size + 1, 0, none⟩ (.slice A t.zones.length c)).setCell ⟨w.heap.size + 1, 1, none⟩ (.slice B t.airports.length d)).setCell ⟨w.heap.size + 1, 2, none⟩ (.slice none 0 0)).heap[w.heap.size + 1]? = some (.cells #[.slice A t.zones.length c, .slice B t.airports.length d, .slice none 0 0] 27 (0, 0))) := by
            have := heap_setCell_same _ (w.heap.size + 1) 2 _ _ (.slice none 0 0) (heap_setCell_same _ (w.heap.size + 1) 1 _ _ (.slice B t.airports.length d) (heap_setCell_same w3 (w.heap.size + 1) 0 _ _ (.slice A t.zones.length c) HA3.out.res))
            show _ = _
            simpa using this
          have y0 := block_cell HA3.out.res 0; have y1 := block_cell HA3.out.res 1; have y2 := block_cell HA3.out.res 2
          have f0 := block_free HA3.out.res 0; have f1 := block_free HA3.out.res 1; have f2 := block_free HA3.out.res 2
          have hmi := fun w => run_make_row' (P := Tryz.prog) 22 3 (.int .i64 0) 8 Tryz.underlying22 (by kernel_rfl) rfl .i64 .i64 t.flights.length (by omega) (by omega) w
          clear hb3
          go_upto_region 33 with (fail)
          have hb4 := HB4.out (.slice A t.zones.length c) (.slice B t.airports.length d) (.slice none 0 0)
          have hr4 := HR4.out
          have hw4 := HW4.out (((w3.setCell ⟨w.heap.size + 1, 0, none⟩ (.slice A t.zones.length c)).setCell ⟨w.heap.size + 1, 1, none⟩ (.slice B t.airports.length d)).setCell ⟨w.heap.size + 1, 2, none⟩ (.slice none 0 0)) (fun b hb => by
            rw [heap_setCell_other _ _ _ _ hb, heap_setCell_other _ _ _ _ hb, heap_setCell_other _ _ _ _ hb]) (by simp) hb4
          have hs4 : (((w3.setCell ⟨w.heap.size + 1, 0, none⟩ (.slice A t.zones.length c)).setCell ⟨w.heap.size + 1, 1, none⟩ (.slice B t.airports.length d)).setCell ⟨w.heap.size + 1, 2, none⟩ (.slice none 0 0)).heap.size = w3.heap.size := by simp
          clear HB4 HR4 HW4 y0 y1 y2 f0 f1 f2 HA3 HX3 HZ3 HP3
          generalize ((w3.setCell ⟨w.heap.size + 1, 0, none⟩ (.slice A t.zones.length c)).setCell ⟨w.heap.size + 1, 1, none⟩ (.slice B t.airports.length d)).setCell ⟨w.heap.size + 1, 2, none⟩ (.slice none 0 0) = w4 at *
          rw [← hs4] at hw4 hrb3 ⊢
          clear hs4 hmi w3
          obtain ⟨hz4, ha4, hF4, hC4⟩ := hw4
          have hb5 := (Below.refl w4.heap.size w4).alloc (Nat.le_refl _) (.cells (madeCells #[.int .i64 0] t.flights.length) 3)
          have hI5 := OwnS.made (t := Ty.int .i64) (e := 3) (w := w4) (S := fun _ => False) (base := w4.heap.size) (n := t.flights.length) (z := .int .i64 0) (x := 0) rfl (fun _ _ => rfl) (Nat.le_refl _) (by unfold maxLen; omega)
          have hs5 : (w4.alloc (.cells (madeCells #[.int .i64 0] t.flights.length) 3)).heap.size = w4.heap.size + 1 := by simp
          generalize w4.alloc (.cells (madeCells #[.int .i64 0] t.flights.length) 3) = w5 at *
          have hb05 : Below w.heap.size w w5 := hb4.trans (hb5.mono hb4.size)
          have hr5 := (hb5.block _ hrb3).trans hr4
          have hz5 := hz4.keep fun b hb => hb5.block b hb.1
          have ha5 := ha4.keep fun b hb => hb5.block b hb.1
          have hF5 := hF4.next hb5 fun _ h => h.elim
          have hC5 := hC4.next hb5 fun _ h => h.elim
          have hfl4 := (hF4.lt fb rfl).2
          have hcl4 := (hC4.lt cb rfl).2
          clear hb4 hr4 hz4 ha4 hF4 hC4
          generalize w4.heap.size = ib at *
          have hle1 : fl.length = t.flights.length := HLE.out.1
          have hle2 : gone.length = t.flights.length := HLE.out.2
          obtain ⟨Af, cf5, ef, hslF⟩ := hF5.sl
          obtain ⟨Ac, cc5, ec, hslC⟩ := hC5.sl
          have hFlt := hF5.lt fb rfl
          have hClt := hC5.lt cb rfl
          have HC := Lib.hid (order_any fl gone (some ⟨fb, 0, none⟩) (some ⟨cb, 0, none⟩) t.flights.length cf t.flights.length t.flights.length w5 (by
              injection ef with e1 e2 e3
              subst e1 e3
              rw [hle1] at hslF
              exact hslF.more fun b hb => by
                rcases hb with h | h
                · exact h.elim
                · injection h with h; subst h; exact hFlt.2) (by
              injection ec with e1 e2 e3
              subst e1 e3
              rw [hle2] at hslC
              exact hslC.more fun b hb => by
                rcases hb with h | h
                · exact h.elim
                · injection h with h; subst h; exact hClt.2) (by omega) (by rw [hle1]; exact HF0.out) (by omega) (fun f hf => by have := HSM.out f hf; omega))
          clear hslF hslC ef ec
          have HF5 := Lib.hid hF5; have HC5 := Lib.hid hC5; have HZ5 := Lib.hid hz5; have HA5 := Lib.hid ha5; have HR5 := Lib.hid hr5; have HI5 := Lib.hid hI5; have HB05 := Lib.hid hb05; have HS5b := Lib.hid hs5
          clear hF5 hC5 hz5 ha5 hr5 hI5 hb05 hb5
          go_wp2_with fail
          refine HC.out.mono ?_
          rintro e w6 ⟨vo, rfl, hoO, hb6⟩
          obtain ⟨Ao, co, rfl, hslO⟩ := hoO.sl
          have hiw : ib < w5.heap.size := by omega
          have HAZ : Hid (AZ t w w6 w6 ib w6.heap.size t.flights.length A B c d (.slice none 0 0) (ixTo fl gone 0) ((newFl fl gone).take 0)) := by
            refine ⟨Kx.refl _ _ _, (hb6.block _ (by omega)).trans HR5.out, ?_, Own.nil, by omega, by have := hb6.size; omega, Nat.le_refl _⟩
            rw [ixTo_zero, hle2]
            exact HI5.out.next hb6 fun _ h => h.elim
          have HF6 := Lib.hid (HF5.out.next hb6 fun _ h => h.elim)
          have HC6 := Lib.hid (HC5.out.next hb6 fun _ h => h.elim)
          have HZ6 := Lib.hid (HZ5.out.keep fun b hb => hb6.block b (by omega))
          have HA6 := Lib.hid (HA5.out.keep fun b hb => hb6.block b (by omega))
          have HB06 := Lib.hid (HB05.out.trans (hb6.mono HB05.out.size))
          have HO6 := Lib.hid hslO
          have HLT : Hid (fb < ib ∧ cb < ib ∧ w.heap.size + 2 ≤ B0 ∧ ib < w5.heap.size ∧ w5.heap.size ≤ w6.heap.size) := by
            exact ⟨hfl4, hcl4, hsz, hiw, hb6.size⟩
          have hol : (orderI fl gone).length ≤ t.flights.length := by rw [order_len, ← hle2]; exact leftI_le gone
          clear HC hb6 hoO hslO HF5 HC5 HZ5 HA5 HR5 HI5 HB05 HS5b hs5
          go_wp2_with fail
          generalize hNO : (orderI fl gone).length = NO at *
          go_loopw [128] (fun s wr => ∃ (k : Nat) (v3 : Value), k ≤ NO ∧ s = .int .i64 k ∧ AZ t w w6 wr ib w6.heap.size t.flights.length A B c d v3 (ixTo fl gone k) ((newFl fl gone).take k)) (fun s _ => NO - (intOf s).toNat)
          case atStart => exact ⟨0, _, Nat.zero_le _, rfl, HAZ.out⟩
          case round =>
            obtain ⟨p, v3, hp, rfl, haz⟩ := hrel
            clear HAZ
            have hlt6 := HLT.out
            by_cases hlt3 : p < NO
            · obtain ⟨i, hoi, hig, hix⟩ := ixTo_set fl gone (k := p) (by omega)
              have HIX := Lib.hid hix
              have HNF := Lib.hid (newFl_take fl gone (by omega) hoi)
              have hsO := HO6.out.keep (w' := wr) fun b hb => haz.k.block b hb.2 (by rintro (h | h) <;> omega)
              obtain ⟨bo, oo, rfl, hSo, zo⟩ := hsO.int_at (k := p) (by omega)
              rw [hoi] at zo
              have hif : i < t.flights.length := by omega
              have HFC := Lib.hid (HF6.out.flight_cells (k := i) (by omega))
              generalize fl.getD i noFlight = f at *
              have hfbr : fb < w6.heap.size := by omega
              have HFR : Hid (wr.heap[fb]? = w6.heap[fb]?) := haz.k.block fb hfbr (by rintro (h | h) <;> omega)
              have HAZ := Lib.hid haz
              have hrl : w6.heap.size ≤ wr.heap.size := haz.l.2.2
              have hp19 : p ≤ 19 := by omega
              clear hsO haz hix hoi
              go_upto_region 36 with (fail)
              clear zo
              refine wp_region_factsB 7 [133, 134, 135, 136, 137, 138, 139] (azF (w.heap.size + 1) fb i wr.heap.size v3 (.slice (some ⟨fb, 0, none⟩) t.flights.length cf) f) (by kernel_rfl) (by kernel_rfl) (by kernel_rfl) (by kernel_rfl) (by kernel_rfl) azF_keep ?_ ?_
              · intro q o hq ho a' w7 hb7 hout hpre K hK
                have hq' : q = 0 ∨ q = 1 ∨ q = 2 ∨ q = 3 ∨ q = 4 ∨ q = 5 ∨ q = 6 := by omega
                have hrz := (Array.getElem?_eq_some_iff.1 HAZ.out.res).1
                rcases hq' with rfl | rfl | rfl | rfl | rfl | rfl | rfl
                · obtain rfl := Option.some.inj ho
                  have e1 : a'.tmps[4]? = some (.pointer (some ⟨w.heap.size + 1, 0, none⟩)) := hout 4 (by decide)
                  go_simp
                  exact hK _ w7 rfl (Below.refl _ _)
                · obtain rfl := Option.some.inj ho
                  have p0 : a'.tmps.getD 133 undef = .pointer (some ⟨w.heap.size + 1, 2, none⟩) := hpre ⟨0, .data⟩ (by simp) 133 rfl
                  simp only [Array.getD_eq_getD_getElem?] at p0
                  have y0 : w7.cell? ⟨w.heap.size + 1, 2, none⟩ = some v3 := (cell_of_same (a := ⟨w.heap.size + 1, 2, none⟩) (hb7.block _ hrz)).trans (block_cell HAZ.out.res 2)
                  go_simp
                  exact hK _ w7 rfl (Below.refl _ _)
                · obtain rfl := Option.some.inj ho
                  have e1 : a'.tmps[11]? = some (.slice (some ⟨fb, 0, none⟩) t.flights.length cf) := hout 11 (by decide)
                  go_simp
                  exact hK _ w7 rfl (Below.refl _ _)
                · obtain rfl := Option.some.inj ho
                  have e1 : a'.tmps[17]? = some (.int .i64 i) := hout 17 (by decide)
                  go_simp
                  exact hK _ w7 rfl (Below.refl _ _)
                · obtain rfl := Option.some.inj ho
                  have p0 : a'.tmps.getD 135 undef = .slice (some ⟨fb, 0, none⟩) t.flights.length cf := hpre ⟨2, .data⟩ (by simp) 135 rfl
                  have p1 : a'.tmps.getD 136 undef = .int .i64 i := hpre ⟨3, .data⟩ (by simp) 136 rfl
                  simp only [Array.getD_eq_getD_getElem?] at p0 p1
                  have hi0 : (0 : Int) ≤ (i : Int) := by omega
                  have hi1 : (i : Int) < (t.flights.length : Int) := by omega
                  go_simp
                  exact hK _ w7 rfl (Below.refl _ _)
                · obtain rfl := Option.some.inj ho
                  have p0 : a'.tmps.getD 137 undef = .pointer (some ⟨fb, i * 9, none⟩) := hpre ⟨4, .data⟩ (by simp) 137 rfl
                  simp only [Array.getD_eq_getD_getElem?] at p0
                  have hc : ∀ j u, (flightCells f)[j]? = some u → w7.cell? ⟨fb, i * 9 + j, none⟩ = some u := fun j u hu => (cell_of_same (a := ⟨fb, i * 9 + j, none⟩) ((hb7.block _ (show fb < wr.heap.size by omega)).trans HFR.out)).trans (HFC.out j u hu)
                  have k0 := hc 0 _ rfl; rw [Nat.add_zero] at k0
                  have k1 := hc 1 _ rfl; have k2 := hc 2 _ rfl; have k3 := hc 3 _ rfl; have k4 := hc 4 _ rfl; have k5 := hc 5 _ rfl; have k6 := hc 6 _ rfl; have k7 := hc 7 _ rfl; have k8 := hc 8 _ rfl
                  clear hc
                  go_simp
                  exact hK _ w7 rfl (Below.refl _ _)
                · obtain rfl := Option.some.inj ho
                  have p0 : a'.tmps.getD 138 undef = .agg (flightCells f).toArray := hpre ⟨5, .data⟩ (by simp) 138 rfl
                  simp only [Array.getD_eq_getD_getElem?] at p0
                  unfold flightCells at p0
                  go_simp
                  exact hK _ _ ⟨w7.heap.size, rfl, hb7.size, heap_alloc_new _ _⟩ ((Below.refl _ _).alloc (Nat.le_refl _) _)
              · intro us w7 hb7 hfacts
                obtain ⟨g, h6, hg6, hc6⟩ := hfacts 6 (by decide)
                have h1 : us 1 = v3 := hfacts 1 (by decide)
                clear hfacts
                simp only [putL, Act.put, List.setIfInBounds_toArray, List.set_cons_zero, List.set_cons_succ, Nat.zero_add, Nat.reduceAdd]
                generalize us 6 = x6 at *
                generalize us 1 = x1 at *
                subst x1
                subst x6
                simp only [List.drop_succ_cons, List.drop_zero]
                have HB7 := Lib.hid hb7
                have HN7 := Lib.hid (HAZ.out.N.next hb7)
                have HAT := Lib.hid (At.of_block hc6)
                have hz7 : w6.heap.size ≤ w7.heap.size := by have := hb7.size; omega
                have htk : ((newFl fl gone).take p).length ≤ 19 := by rw [List.length_take]; omega
                clear hb7 hc6
                go_wp2_with (at_builtin; refine wpList_push (t := Ty.flight) rfl _ _ _ rfl 104 elem_flight rfl HN7.out g f (fun _ => False) rfl ⟨flightCells f, rfl, HAT.out⟩ (fun _ h => h.elim) ?c1 (by decide) hz7 ?_)
                case c1 => omega
                intro v' w8 hown8 hgr8
                rw [← HNF.out] at hown8
                obtain ⟨A9, c9, rfl, -⟩ := hown8.sl
                have HY8 := Lib.hid (HAZ.out.box8 HB7.out hgr8)
                have HZ8 := Lib.hid (HAZ.out.push HB7.out hgr8 hown8)
                have y2 := block_cell HY8.out 2
                have f2 := block_free HY8.out 2
                generalize ((newFl fl gone).take (p + 1)).length = m9 at *
                clear hown8 hgr8 HN7 HAT HFR
                go_upto_region 37 with (fail)
                have HY9 : Hid (∀ x, AZ t w w6 ((w8.setCell ⟨w.heap.size + 1, 2, none⟩ (.slice A9 m9 c9)).setCell ⟨ib, i, none⟩ (.int .i64 x)) ib w6.heap.size t.flights.length A B c d (.slice A9 m9 c9) ((ixTo fl gone p).set i x) ((newFl fl gone).take (p + 1))) := fun x => HZ8.out.setI (by rw [ixTo_len]; omega) x
                have y3 := HZ8.out.I.int_cell (k := i) (by rw [ixTo_len]; omega)
                have f3 := HZ8.out.I.free i
                have hi0 : (0 : Int) ≤ (i : Int) := by omega
                have hi1 : (i : Int) < (t.flights.length : Int) := by omega
                clear y2 f2 HY8
                generalize w8.setCell ⟨w.heap.size + 1, 2, none⟩ (.slice A9 m9 c9) = w9 at *
                go_wp2_with fail
                go_roundw
                case rel => exact ⟨p + 1, _, by omega, by go_num, by rw [← HIX.out]; exact HY9.out _⟩
                case measure => simp [intOf]; omega
            · obtain rfl : p = NO := by omega
              rw [List.take_of_length_le (by rw [newFl_len]; omega)] at haz
              have hix : ixTo fl gone p = ixTo2 fl gone 0 := by rw [← ixTo_all, hNO]
              rw [hix] at haz
              have HAZ := Lib.hid haz
              have hgl : gone.length = t.flights.length := hle2
              clear haz hix
              go_wp2_with fail
              go_loopw [149] (fun s wr => ∃ k : Nat, k ≤ t.flights.length ∧ s = .int .i64 k ∧ AZ t w w6 wr ib w6.heap.size t.flights.length A B c d v3 (ixTo2 fl gone k) (newFl fl gone)) (fun s _ => t.flights.length - (intOf s).toNat)
              case atStart => exact ⟨0, Nat.zero_le _, rfl, HAZ.out⟩
              case round =>
                obtain ⟨j, hj, rfl, haz⟩ := hrel
                clear HAZ
                have HAZ := Lib.hid haz
                by_cases hltj : j < t.flights.length
                · have zc : wr.cell? ⟨cb, j, none⟩ = some (.bool (gone.getD j false)) := (cell_of_same (a := ⟨cb, j, none⟩) (haz.k.block cb (by omega) (by rintro (h | h) <;> omega))).trans (HC6.out.bool_cell (k := j) (by omega))
                  have y3 := haz.I.int_cell (k := j) (by rw [ixTo2_len]; omega)
                  have f3 := haz.I.free j
                  clear haz
                  cases hg : gone.getD j false with
                  | true =>
                    rw [hg] at zc
                    have HV : Hid (AZ t w w6 (wr.setCell ⟨ib, j, none⟩ (.int .i64 (-1))) ib w6.heap.size t.flights.length A B c d v3 (ixTo2 fl gone (j + 1)) (newFl fl gone)) := by
                      show AZ _ _ _ _ _ _ _ _ _ _ _ _ _ _
                      rw [← ixTo2_gone fl gone hg]
                      exact HAZ.out.setI (by rw [ixTo2_len]; omega) _
                    clear hg
                    go_wp2_with fail
                    go_roundw
                    case rel => exact ⟨j + 1, by omega, by go_num, HV.out⟩
                    case measure => simp [intOf]; omega
                  | false =>
                    rw [hg] at zc
                    have HV : Hid (AZ t w w6 wr ib w6.heap.size t.flights.length A B c d v3 (ixTo2 fl gone (j + 1)) (newFl fl gone)) := by
                      show AZ _ _ _ _ _ _ _ _ _ _ _ _ _ _
                      rw [← ixTo2_left fl gone hg]
                      exact HAZ.out
                    clear hg y3 f3
                    go_wp2_with fail
                    go_roundw
                    case rel => exact ⟨j + 1, by omega, by go_num, HV.out⟩
                    case measure => simp [intOf]; omega
                · obtain rfl : j = t.flights.length := by omega
                  have HNI : Hid (NI = ixTo2 fl gone t.flights.length) := by
                    show _ = _
                    rw [HFL0.out.2, ← hgl, ixTo2_all]
                  have HNT : Hid (NT = ⟨t.zones, t.airports, newFl fl gone⟩) := HFL0.out.1
                  have hbw : Below w.heap.size w wr := HB06.out.trans (haz.k.below (by omega) (by rintro q (h | h) <;> omega))
                  have hok : GTT.ok ⟨t.zones, t.airports, newFl fl gone⟩ := newTT_ok HT.out (by omega) HSM.out HSZ.out (by omega)
                  have hbx : ∀ b, b < w6.heap.size → b ≠ w.heap.size + 1 → b ≠ ib → wr.heap[b]? = w6.heap[b]? := fun b h1 h2 h3 => haz.k.block b h1 (by rintro (h | h) <;> omega)
                  have hw6 := haz.l.2.2
                  have hszV := (HZ6.out.keep (w' := wr) fun b hb => hbx b (by omega) hb.2 (by omega)).more (S' := fun b => b < w6.heap.size ∧ b ≠ w.heap.size + 1) fun b hb => ⟨by omega, hb.2⟩
                  have hsaV := (HA6.out.keep (w' := wr) fun b hb => hbx b (by omega) hb.2 (by omega)).more (S' := fun b => b < w6.heap.size ∧ b ≠ w.heap.size + 1) fun b hb => ⟨by omega, hb.2⟩
                  obtain ⟨Ax, cx, ex, hsxV⟩ := haz.I.sl
                  rw [ixTo2_len, hgl] at ex hsxV
                  injection ex with ex1 ex2 ex3
                  subst ex1 ex3
                  have hnl := haz.N.lt
                  have hil := haz.I.lt ib rfl
                  obtain ⟨A9, c9, e9, hsfV⟩ := haz.N.sl
                  subst e9
                  have hrl := (Array.getElem?_eq_some_iff.1 haz.res).1
                  have HC := Lib.hid (validate_any ⟨t.zones, t.airports, newFl fl gone⟩ A B A9 _ _ _ c d c9 wr hok (hszV.more fun b hb => Nat.lt_of_lt_of_le hb.1 hw6) (hsaV.more fun b hb => Nat.lt_of_lt_of_le hb.1 hw6) (hsfV.more fun b hb => hb.2))
                  rw [← HNT.out] at HC
                  have x0 := block_cell haz.res 0; have x1 := block_cell haz.res 1; have x2 := block_cell haz.res 2
                  have HX := Lib.hid haz.res
                  have HBW := Lib.hid hbw
                  have HSZV := Lib.hid hszV; have HSAV := Lib.hid hsaV; have HSFV := Lib.hid hsfV; have HSXV := Lib.hid hsxV
                  have HNL := Lib.hid hnl
                  generalize hz9 : t.zones.length = nz at *
                  generalize ha9 : t.airports.length = na at *
                  generalize hf9 : (newFl fl gone).length = nf at *
                  generalize hte : ttE NT = te at *
                  clear haz hbw hok hbx hszV hsaV hsfV hsxV hnl hol HAZ
                  go_wp2_with fail
                  refine HC.out.mono ?_
                  rintro e w10 ⟨rfl, hb10⟩
                  clear HC x0 x1 x2
                  have HX10 : Hid (w10.heap[w.heap.size + 1]? = _) := (hb10.block _ hrl).trans HX.out
                  have HBW10 : Hid (Below w.heap.size w w10) := HBW.out.trans (hb10.mono HBW.out.size)
                  have HB10 := Lib.hid hb10
                  have z0 := block_cell HX10.out 0; have z1 := block_cell HX10.out 1; have z2 := block_cell HX10.out 2
                  have f0 := block_free HX10.out 0; have f1 := block_free HX10.out 1; have f2 := block_free HX10.out 2
                  clear hb10
                  by_cases hc : te = 0
                  case neg =>
                    have hc' : (te != 0) = true := by simpa using hc
                    have HF : Hid (res = (⟨[], [], []⟩, [], te)) := by show _ = _; rw [HP2.out, if_pos hc]
                    have HFIN : Hid (∀ a b c, Below w.heap.size w (((w10.setCell ⟨w.heap.size + 1, 0, none⟩ a).setCell ⟨w.heap.size + 1, 1, none⟩ b).setCell ⟨w.heap.size + 1, 2, none⟩ c)) := fun a b c => ((HBW10.out.setCell (show w.heap.size ≤ w.heap.size + 1 by omega) _).setCell (show w.heap.size ≤ w.heap.size + 1 by omega) _).setCell (show w.heap.size ≤ w.heap.size + 1 by omega) _
                    clear hc
                    go_wp2_with fail
                    refine bodyPost_ret (v := .tuple #[.agg #[.slice none 0 0, .slice none 0 0, .slice none 0 0], .slice none 0 0, .int .i64 te]) (by simp [results, Tryz.results19, go_sem, z0, z1, z2]) rfl ?_
                    rw [HF.out]
                    exact apply_nil (HFIN.out _ _ _)
                  case pos =>
                    have HF : Hid (res = (NT, NI, 0)) := by show _ = _; rw [HP2.out, if_neg (by simpa using hc)]
                    subst hc
                    have HFIN : Hid (ApplyPost res w (.returned (.tuple #[.agg #[.slice A nz c, .slice B na d, .slice A9 nf c9], .slice (some ⟨ib, 0, none⟩) t.flights.length t.flights.length, .int .i64 0]))
                        (((w10.setCell ⟨w.heap.size + 1, 0, none⟩ (.slice A nz c)).setCell ⟨w.heap.size + 1, 1, none⟩ (.slice B na d)).setCell ⟨w.heap.size + 1, 2, none⟩ (.slice A9 nf c9))) := by
                      have hk2 : ∀ q, q ≠ w.heap.size + 1 → (((w10.setCell ⟨w.heap.size + 1, 0, none⟩ (.slice A nz c)).setCell ⟨w.heap.size + 1, 1, none⟩ (.slice B na d)).setCell ⟨w.heap.size + 1, 2, none⟩ (.slice A9 nf c9)).heap[q]? = w10.heap[q]? := fun q hq => by
                        rw [heap_setCell_other _ _ _ _ hq, heap_setCell_other _ _ _ _ hq, heap_setCell_other _ _ _ _ hq]
                      have hs2 : (((w10.setCell ⟨w.heap.size + 1, 0, none⟩ (.slice A nz c)).setCell ⟨w.heap.size + 1, 1, none⟩ (.slice B na d)).setCell ⟨w.heap.size + 1, 2, none⟩ (.slice A9 nf c9)).heap.size = w10.heap.size := by simp
                      have hbb := HB10.out
                      have hsz := hbb.size
                      have hw6' := hw6
                      show ApplyPost _ _ _ _
                      rw [HF.out, HNT.out, HNI.out]
                      refine ⟨A, nz, c, B, na, d, A9, nf, c9, some ⟨ib, 0, none⟩, t.flights.length, t.flights.length, rfl, (HSZV.out.keep fun b hb => (hk2 b hb.2).trans (hbb.block b (by omega))).more fun b hb => ?_, (HSAV.out.keep fun b hb => (hk2 b hb.2).trans (hbb.block b (by omega))).more fun b hb => ?_, (HSFV.out.keep fun b hb => (hk2 b (by omega)).trans (hbb.block b hb.2)).more fun b hb => ?_, (HSXV.out.keep fun b hb => ?_).more fun b hb => ?_, ?_⟩
                      · show b < _
                        rw [hs2]; omega
                      · show b < _
                        rw [hs2]; omega
                      · show b < _
                        rw [hs2]; omega
                      · rcases hb with h | h
                        · exact h.elim
                        · injection h with h
                          subst h
                          exact (hk2 ib (by omega)).trans (hbb.block ib hil.2)
                      · rcases hb with h | h
                        · exact h.elim
                        · injection h with h
                          subst h
                          show ib < _
                          rw [hs2]; omega
                      · exact ((HBW10.out.setCell (show w.heap.size ≤ w.heap.size + 1 by omega) _).setCell (show w.heap.size ≤ w.heap.size + 1 by omega) _).setCell (show w.heap.size ≤ w.heap.size + 1 by omega) _
                    have hc9 : ((0 : Int) != 0) = false := rfl
                    go_wp2_with fail
                    refine bodyPost_ret (v := .tuple #[.agg #[.slice A nz c, .slice B na d, .slice A9 nf c9], .slice (some ⟨ib, 0, none⟩) t.flights.length t.flights.length, .int .i64 0]) (by simp [results, Tryz.results19, go_sem, z0, z1, z2]) rfl ?_
                    exact HFIN.out
end Go.Proofs.YtifconapjfdkcaaGreatDoor
/-
  Contract of pairingdata.At.
  Condition: a position is small.
-/
namespace Go.Proofs.YtifconapjfdkcaaGreatDoor
set_option linter.unusedSimpArgs false
set_option linter.unusedVariables false
open Go.RowKit

set_option maxRecDepth 100000 in
theorem dataAt_any (l : List Int) (A : Option Addr) (n c : Nat) (i : Nat) (w : World) (h : Sl (Ty.int .i64) w (all_ w) A n c l) (hi : i ≤ 1000000) :
    Calls Tryz.prog 32 #[.slice A n c, .int .i64 i] w (IntPost (atL l i) w) := by
  have hn1 : n ≤ l.length := Nat.le_of_eq h.len
  have hn2 : l.length ≤ n := Nat.le_of_eq h.len.symm
  have hle := h.le
  unfold maxLen at hle
  rcases Nat.eq_zero_or_pos n with rfl | hp
  · have HR : Hid (atL l i = (i : Int) % 65536) := by show _ = _; unfold atL; rw [if_pos (by omega)]
    have HA := Lib.hid (and_ffff (i : Int))
    clear h
    go_enter Tryz.func32, Tryz.ntmps32
    go_wp2_with fail
    go_ret
    exact ⟨ret_int (by rw [HR.out, HA.out]), Below.refl _ _⟩
  · have HR : Hid (atL l i = l.getD (i % n) 0 % 65536 + ((i / n : Nat) : Int)) := by
      show _ = _
      have e : l.length = n := by omega
      unfold atL
      rw [if_neg (by omega), e]
    have hmod : i % n < n := Nat.mod_lt _ hp
    have hdiv : i / n ≤ i := Nat.div_le_self _ _
    obtain ⟨b, o, rfl, hbS, hc⟩ := h.int_at (k := i % n) (by omega)
    have e2 : l[i % n]'(by omega) = l.getD (i % n) 0 := by rw [List.getD_eq_getElem?_getD, List.getElem?_eq_getElem (by omega)]; rfl
    rw [e2] at hc
    clear e2
    generalize l.getD (i % n) 0 = x at *
    have HA := Lib.hid (and_ffff x)
    have hn0 : ((n : Int) == 0) = false := by simp; omega
    have hne : ¬ (n : Int) = 0 := by omega
    have q1 : (i : Int) % (n : Int) = ((i % n : Nat) : Int) := rfl
    have q2 : (i : Int) / (n : Int) = ((i / n : Nat) : Int) := rfl
    have q1' : (i : Int).tmod (n : Int) = ((i % n : Nat) : Int) := by rw [Int.tmod_eq_emod_of_nonneg (by omega)]; rfl
    have q2' : (i : Int).tdiv (n : Int) = ((i / n : Nat) : Int) := by rw [Int.tdiv_eq_ediv_of_nonneg (by omega)]; rfl
    generalize i % n = r at *
    generalize i / n = d at *
    have q3 : (0 : Int) ≤ (r : Int) := by omega
    have q4 : (r : Int) < (n : Int) := by omega
    have q6 : bits .and .i64 x 65535 = x % 65536 := HA.out
    have Q2 := Lib.hid q2
    have HW1 : Hid (wrap64 (x % 65536 + wrap64 ((i : Int) / (n : Int))) = x % 65536 + (d : Int)) := by
      show _ = _
      rw [q2, IntWalk.wrap64_in (d : Int) ⟨by omega, by omega⟩, IntWalk.wrap64_in _ ⟨by omega, by omega⟩]
    have HW2 : Hid (wrap64 (x % 65536 + wrap64 (d : Int)) = x % 65536 + (d : Int)) := by
      show _ = _
      rw [IntWalk.wrap64_in (d : Int) ⟨by omega, by omega⟩, IntWalk.wrap64_in _ ⟨by omega, by omega⟩]
    clear h
    go_enter Tryz.func32, Tryz.ntmps32
    go_wp2_with fail
    go_quiet (fail)
    go_wp2_with fail
    go_ret
    exact ⟨ret_int (by first | rw [HR.out] | (rw [HR.out]; exact HW1.out) | (rw [HR.out]; exact HW2.out)), below_drewN (Below.refl _ _) _⟩
end Go.Proofs.YtifconapjfdkcaaGreatDoor
/-
  What holds while pairingdata.Timetable runs.
  No condition.
-/
namespace Go.Proofs.YtifconapjfdkcaaGreatDoor
set_option linter.unusedSimpArgs false
set_option linter.unusedVariables false
open Go.RowKit Go

theorem and_low (n : Int) (k : Nat) (hk : k ≤ 62) : bits .and .i64 n ((2 ^ k - 1 : Nat) : Int) = n % ((2 ^ k : Nat) : Int) := by
  show IntKind.i64.wrap ((BitVec.ofInt 64 n &&& BitVec.ofInt 64 ((2 ^ k - 1 : Nat) : Int)).toNat : Int) = _
  have hp : 2 ^ k ≤ 2 ^ 62 := Nat.pow_le_pow_right (by decide) hk
  have hp0 : 0 < 2 ^ k := Nat.pow_pos (by decide)
  have hd : ∃ q, 2 ^ 64 = 2 ^ k * q := ⟨2 ^ (64 - k), by rw [← Nat.pow_add]; congr 1; omega⟩
  have e1 : (BitVec.ofInt 64 ((2 ^ k - 1 : Nat) : Int)).toNat = 2 ^ k - 1 := by
    rw [BitVec.toNat_ofInt]
    omega
  rw [BitVec.toNat_and, e1, Nat.and_two_pow_sub_one_eq_mod, BitVec.toNat_ofInt, IntKind.wrap_i64]
  obtain ⟨q, hq⟩ := hd
  generalize 2 ^ k = p at *
  have h1 : ((n % ((2 ^ 64 : Nat) : Int)).toNat % p : Nat) < p := Nat.mod_lt _ hp0
  have h2 : (((n % ((2 ^ 64 : Nat) : Int)).toNat % p : Nat) : Int) = n % (p : Int) := by
    rw [Int.natCast_emod, Int.toNat_of_nonneg (by omega)]
    rw [hq]
    exact Int.emod_emod_of_dvd n ⟨(q : Int), by simp⟩
  omega
theorem and1 (n : Int) : bits .and .i64 n 1 = n % 2 := and_low n 1 (by decide)
theorem and_3 (n : Int) : bits .and .i64 n 3 = n % 4 := and_low n 2 (by decide)
theorem and_7 (n : Int) : bits .and .i64 n 7 = n % 8 := and_low n 3 (by decide)
theorem and_15 (n : Int) : bits .and .i64 n 15 = n % 16 := and_low n 4 (by decide)
theorem and_127 (n : Int) : bits .and .i64 n 127 = n % 128 := and_low n 7 (by decide)
/-- Objects laid one behind the other. -/
def allocs (w : World) : List Obj → World
  | [] => w
  | o :: os => allocs (w.alloc o) os
theorem allocs_size : ∀ (os : List Obj) (w : World), (allocs w os).heap.size = w.heap.size + os.length
  | [], w => rfl
  | o :: os, w => by rw [allocs, allocs_size os]; simp; omega
theorem allocs_below : ∀ (os : List Obj) (w : World) (n : Nat), n ≤ w.heap.size → Below n w (allocs w os)
  | [], w, n, h => Below.refl _ _
  | o :: os, w, n, h => by
    have h1 := (Below.refl n w).alloc h o
    exact h1.trans (allocs_below os (w.alloc o) n (by simp; omega))
theorem allocs_at : ∀ (os : List Obj) (w : World) (i : Nat) (o : Obj), os[i]? = some o → (allocs w os).heap[w.heap.size + i]? = some o
  | [], w, i, o, h => by simp at h
  | a :: os, w, 0, o, h => by
    injection h with h
    subst h
    have := (allocs_below os (w.alloc a) (w.alloc a).heap.size (Nat.le_refl _)).block w.heap.size (by simp)
    exact this.trans (heap_alloc_new _ _)
  | a :: os, w, i + 1, o, h => by
    have := allocs_at os (w.alloc a) i o h
    rw [show (w.alloc a).heap.size + i = w.heap.size + (i + 1) by simp; omega] at this
    exact this
def dRow (r : Nat) : Array Value := #[.string (dCode (dFrom r)), .string (dCode (dTo r))]
def dObjs (H : Nat) : List Obj := [.cells #[.slice none 0 0, .slice none 0 0, .slice none 0 0] 27,
  .cells #[.int .i64 12961060, .int .i64 60] 122,
  .cells #[.string utcS, .int .i64 0, .slice none 0 0, .string eastS, .int .i64 120, .slice (some ⟨H + 1, 0, none⟩) 1 1] 98,
  .cells #[.slice (some ⟨H + 1 + 1, 0, none⟩) 2 2, .slice (some ⟨H + 1 + 1 + 1 + 1, 0, none⟩) 3 3, .slice none 0 0] 27,
  .cells #[.string (dCode 0), .string utcS, .string (dCode 1), .string utcS, .string (dCode 2), .string eastS] 101,
  .cells (dRow 0) 9, .cells (dRow 1) 9, .cells (dRow 2) 9, .cells (dRow 3) 9, .cells (dRow 4) 9, .cells (dRow 5) 9,
  .cells #[.slice (some ⟨H + 1 + 1 + 1 + 1 + 1, 0, none⟩) 2 2, .slice (some ⟨H + 1 + 1 + 1 + 1 + 1 + 1, 0, none⟩) 2 2, .slice (some ⟨H + 1 + 1 + 1 + 1 + 1 + 1 + 1, 0, none⟩) 2 2, .slice (some ⟨H + 1 + 1 + 1 + 1 + 1 + 1 + 1 + 1, 0, none⟩) 2 2,
    .slice (some ⟨H + 1 + 1 + 1 + 1 + 1 + 1 + 1 + 1 + 1, 0, none⟩) 2 2, .slice (some ⟨H + 1 + 1 + 1 + 1 + 1 + 1 + 1 + 1 + 1 + 1, 0, none⟩) 2 2] 36]
/-- The memory ahead of the loop. -/
def dInit (w : World) : World := allocs w (dObjs w.heap.size)
theorem dInit_size (w : World) : (dInit w).heap.size = w.heap.size + 12 := allocs_size _ _
theorem dInit_below (w : World) : Below w.heap.size w (dInit w) := allocs_below _ _ _ (Nat.le_refl _)
theorem dInit_at (w : World) (i : Nat) (o : Obj) (h : (dObjs w.heap.size)[i]? = some o) : (dInit w).heap[w.heap.size + i]? = some o := allocs_at _ _ _ _ h
theorem dInit_zones (w : World) : Sl Ty.zone (dInit w) (fun b => w.heap.size < b ∧ b < w.heap.size + 3) (some ⟨w.heap.size + 2, 0, none⟩) 2 2 dZones := by
  refine Sl.block (xs := dZones) (dInit_at w 2 _ rfl) (by omega) (by decide) fun i x hi => ?_
  have : i = 0 ∨ i = 1 := by
    have := (List.getElem?_eq_some_iff.1 hi).1
    have : i < 2 := this
    omega
  rcases this with rfl | rfl
  · injection hi with hi
    subst hi
    exact ⟨none, 0, 0, rfl, Sl.nil0⟩
  · injection hi with hi
    subst hi
    refine ⟨some ⟨w.heap.size + 1, 0, none⟩, 1, 1, rfl, ?_⟩
    refine Sl.block (xs := [(⟨12961060, 60⟩ : GShift)]) (dInit_at w 1 _ rfl) (by omega) (by decide) fun i x hi => ?_
    have : i = 0 := by
      have := (List.getElem?_eq_some_iff.1 hi).1
      have : i < 1 := this
      omega
    subst this
    injection hi with hi
    subst hi
    rfl
theorem dInit_airports (w : World) : Sl Ty.airport (dInit w) (fun b => b = w.heap.size + 4) (some ⟨w.heap.size + 4, 0, none⟩) 3 3 dAirports := by
  refine Sl.block (xs := dAirports) (dInit_at w 4 _ rfl) rfl (by decide) fun i x hi => ?_
  have : i = 0 ∨ i = 1 ∨ i = 2 := by
    have := (List.getElem?_eq_some_iff.1 hi).1
    have : i < 3 := this
    omega
  rcases this with rfl | rfl | rfl
  all_goals
    injection hi with hi
    subst hi
    rfl
/-- A route's row. -/
theorem dInit_route (w : World) (r : Nat) (hr : r < 6) : (dInit w).cell? ⟨w.heap.size + 11, r, none⟩ = some (.slice (some ⟨w.heap.size + 5 + r, 0, none⟩) 2 2) ∧ (dInit w).heap[w.heap.size + 5 + r]? = some (.cells (dRow r) 9 (0, 0)) := by
  have : r = 0 ∨ r = 1 ∨ r = 2 ∨ r = 3 ∨ r = 4 ∨ r = 5 := by omega
  have hb := dInit_at w 11 _ rfl
  rcases this with rfl | rfl | rfl | rfl | rfl | rfl
  · exact ⟨block_cell hb 0, dInit_at w 5 _ rfl⟩
  · exact ⟨block_cell hb 1, dInit_at w 6 _ rfl⟩
  · exact ⟨block_cell hb 2, dInit_at w 7 _ rfl⟩
  · exact ⟨block_cell hb 3, dInit_at w 8 _ rfl⟩
  · exact ⟨block_cell hb 4, dInit_at w 9 _ rfl⟩
  · exact ⟨block_cell hb 5, dInit_at w 10 _ rfl⟩
/-- While the flights are gathered. -/
structure DT (w wr : World) (v : Value) (xs : List GFlight) : Prop where
  keep : Kx (fun q => q = w.heap.size + 3) (w.heap.size + 12) (dInit w) wr
  box : wr.heap[w.heap.size + 3]? = some (.cells #[.slice (some ⟨w.heap.size + 2, 0, none⟩) 2 2, .slice (some ⟨w.heap.size + 4, 0, none⟩) 3 3, v] 27 (0, 0))
  own : Own Ty.flight 62 wr (w.heap.size + 12) v xs
section
variable {w wr w7 w8 : World} {v v' : Value} {xs ys : List GFlight}
theorem DT.start (w : World) : DT w (dInit w) (.slice none 0 0) [] := ⟨Kx.refl _ _ _, dInit_at w 3 _ rfl, Own.nil⟩
theorem DT.size (h : DT w wr v xs) : w.heap.size + 12 ≤ wr.heap.size := by have := h.keep.size; rw [dInit_size] at this; exact this
theorem DT.next (h : DT w wr v xs) (hb : Below wr.heap.size wr w7) : DT w w7 v xs :=
  ⟨h.keep.trans (Kx.of_below hb h.size), (hb.block _ (by have := h.size; omega)).trans h.box, h.own.next hb⟩
theorem DT.below (h : DT w wr v xs) : Below w.heap.size w wr := (dInit_below w).trans (h.keep.below (by omega) fun q hq => by omega)
theorem DT.old (h : DT w wr v xs) {q : Nat} (h1 : q < w.heap.size + 12) (h2 : q ≠ w.heap.size + 3) : wr.heap[q]? = (dInit w).heap[q]? := h.keep.block q h1 h2
theorem DT.route (h : DT w wr v xs) (r : Nat) (hr : r < 6) : wr.cell? ⟨w.heap.size + 11, r, none⟩ = some (.slice (some ⟨w.heap.size + 5 + r, 0, none⟩) 2 2) ∧ wr.cell? ⟨w.heap.size + 5 + r, 0, none⟩ = some (.string (dCode (dFrom r))) ∧ wr.cell? ⟨w.heap.size + 5 + r, 1, none⟩ = some (.string (dCode (dTo r))) := by
  obtain ⟨h1, h2⟩ := dInit_route w r hr
  have h3 := (h.old (q := w.heap.size + 5 + r) (by omega) (by omega)).trans h2
  exact ⟨(cell_of_same (a := ⟨w.heap.size + 11, r, none⟩) (h.old (by show w.heap.size + 11 < _; omega) (by show w.heap.size + 11 ≠ _; omega))).trans h1, block_cell h3 0, block_cell h3 1⟩
theorem DT.box8 (h : DT w wr v xs) (hg : wr.grownBy w8 v.ownBlock) : w8.heap[w.heap.size + 3]? = some (.cells #[.slice (some ⟨w.heap.size + 2, 0, none⟩) 2 2, .slice (some ⟨w.heap.size + 4, 0, none⟩) 3 3, v] 27 (0, 0)) :=
  (hg.block _ (by have := h.size; omega) (fun e => by have := (h.own.lt _ e.symm).1; omega)).trans h.box
theorem DT.push (h : DT w wr v xs) (hg : wr.grownBy w8 v.ownBlock) (hown : Own Ty.flight 62 w8 (w.heap.size + 12) v' ys) : DT w (w8.setCell ⟨w.heap.size + 3, 2, none⟩ v') v' ys := by
  have hs := h.size
  have hk : ∀ q, q ≠ w.heap.size + 3 → (w8.setCell ⟨w.heap.size + 3, 2, none⟩ v').heap[q]? = w8.heap[q]? := fun q hq => heap_setCell_other _ _ _ _ hq
  refine ⟨(h.keep.grown hg (fun k hk => .inl (h.own.lt k hk).1) hs).set (.inr rfl) _ _, ?_, hown.flatC flat_flight fun q hq => hk q (by have := (hown.lt q hq).1; omega)⟩
  have := heap_setCell_same w8 (w.heap.size + 3) 2 _ _ v' (h.box8 hg)
  rw [this]
  rfl
end
end Go.Proofs.YtifconapjfdkcaaGreatDoor
/-
  How a problem lies in memory.
  No condition.
-/
namespace Go.Proofs.YtifconapjfdkcaaGreatDoor
set_option linter.unusedSimpArgs false
set_option linter.unusedVariables false
open Go.RowKit Go

/-- A problem's cells: the timetable t, some contract, some lists. -/
def ProbIs (w : World) (S : Nat → Prop) (cells : List Value) (t : GTT) : Prop :=
  ∃ v cs A1 n1 c1 A2 n2 c2 bs os h p, cells = v ++ (cs ++ [.slice A1 n1 c1, .slice A2 n2 c2, .int .i64 h, .int .i64 p]) ∧ TTIs w S v t ∧ ConCells cs ∧ Sl Ty.str w S A1 n1 c1 bs ∧ Sl (Ty.int .i64) w S A2 n2 c2 os ∧ 0 < os.length ∧ os.length ≤ 5 ∧ bs.length ≤ 2
def ProbPost (t : GTT) (w : World) (e : Ending) (w' : World) : Prop := ∃ cells, e = .returned (.agg cells.toArray) ∧ ProbIs w' (all_ w') cells t ∧ Below w.heap.size w w'
theorem list14 {cs : List Value} (h : cs.length = 14) : ∃ k0 k1 k2 k3 k4 k5 k6 k7 k8 k9 k10 k11 k12 k13, cs = [k0, k1, k2, k3, k4, k5, k6, k7, k8, k9, k10, k11, k12, k13] := by
  match cs, h with
  | [k0, k1, k2, k3, k4, k5, k6, k7, k8, k9, k10, k11, k12, k13], _ => exact ⟨k0, k1, k2, k3, k4, k5, k6, k7, k8, k9, k10, k11, k12, k13, rfl⟩
theorem need_any (a b c a' b' c' : Int) (d : Nat) (w : World) : (Op.equalIn (d + 1 + 1) 60 (.agg #[.int .i64 a, .int .i64 b, .int .i64 c]) (.agg #[.int .i64 a', .int .i64 b', .int .i64 c'])).run Tryz.prog w = .ok (decide (a = a') && (decide (b = b') && decide (c = c'))) w := by
  rw [run_equalIn_array (P := Tryz.prog) w (d + 1) (t := 60) (e := 3) (n := 3) (i := (Tryz.prog.info? 3).get (by kernel_rfl)) _ _ Tryz.underlying60 (by kernel_rfl)]
  have hc : Tryz.prog.cellsOf 3 = 1 := by kernel_rfl
  have h1 : ∀ x y : Int, (Op.equalIn (d + 1) 3 (.int .i64 x) (.int .i64 y)).run Tryz.prog w = .ok (decide (x = y)) w := fun x y => by
    rw [run_equalIn_int w d _ _ .i64 _ _ Tryz.underlying3]
    by_cases h : x = y <;> simp [h]
  have e : List.range 3 = [0, 1, 2] := rfl
  rw [hc, e]
  have p0 : ∀ u v x : Int, (part 3 #[.int .i64 u, .int .i64 v, .int .i64 x] 0).run Tryz.prog w = .ok (.int .i64 u) w := fun _ _ _ => by kernel_rfl
  have p1 : ∀ u v x : Int, (part 3 #[.int .i64 u, .int .i64 v, .int .i64 x] 1).run Tryz.prog w = .ok (.int .i64 v) w := fun _ _ _ => by kernel_rfl
  have p2 : ∀ u v x : Int, (part 3 #[.int .i64 u, .int .i64 v, .int .i64 x] 2).run Tryz.prog w = .ok (.int .i64 x) w := fun _ _ _ => by kernel_rfl
  by_cases ha : a = a' <;> by_cases hb : b = b' <;> by_cases hcc : c = c' <;>
    simp [Op.eqItems, Sem.run_bind, p0, p1, p2, h1, Result.andThen_ok, Sem.run_pure, ha, hb, hcc]
def zProb : Array Value := #[.slice none 0 0, .slice none 0 0, .slice none 0 0, .int .i64 0, .int .i64 0, .int .i64 0, .int .i64 0, .int .i64 0, .int .i64 0, .int .i64 0, .slice none 0 0, .slice none 0 0, .slice none 0 0, .slice none 0 0, .slice none 0 0, .slice none 0 0, .int .i64 0, .slice none 0 0, .slice none 0 0, .int .i64 0, .int .i64 0]
def PRow (v cs : List Value) (b o : Value) (h p : Int) : Array Value := (v ++ (cs ++ [b, o, .int .i64 h, .int .i64 p])).toArray
theorem PRow_set17 {v cs : List Value} {b b' o : Value} {h p : Int} (hv : v.length = 3) (hc : cs.length = 14) : (PRow v cs b o h p).setIfInBounds 17 b' = PRow v cs b' o h p := by
  obtain ⟨k0, k1, k2, k3, k4, k5, k6, k7, k8, k9, k10, k11, k12, k13, rfl⟩ := list14 hc
  match v, hv with
  | [a, b, c], _ => rfl
theorem PRow_set18 {v cs : List Value} {b o' o : Value} {h p : Int} (hv : v.length = 3) (hc : cs.length = 14) : (PRow v cs b o h p).setIfInBounds 18 o' = PRow v cs b o' h p := by
  obtain ⟨k0, k1, k2, k3, k4, k5, k6, k7, k8, k9, k10, k11, k12, k13, rfl⟩ := list14 hc
  match v, hv with
  | [a, b, c], _ => rfl
theorem PRow_set19 {v cs : List Value} {b o : Value} {h h' p : Int} (hv : v.length = 3) (hc : cs.length = 14) : (PRow v cs b o h p).setIfInBounds 19 (.int .i64 h') = PRow v cs b o h' p := by
  obtain ⟨k0, k1, k2, k3, k4, k5, k6, k7, k8, k9, k10, k11, k12, k13, rfl⟩ := list14 hc
  match v, hv with
  | [a, b, c], _ => rfl
theorem TTIs.fl {w : World} {S : Nat → Prop} {A1 A2 A3 : Option Addr} {n1 n2 n3 c1 c2 c3 : Nat} {t : GTT} (h : TTIs w S [.slice A1 n1 c1, .slice A2 n2 c2, .slice A3 n3 c3] t) : Sl Ty.zone w S A1 n1 c1 t.zones ∧ Sl Ty.airport w S A2 n2 c2 t.airports ∧ Sl Ty.flight w S A3 n3 c3 t.flights := by
  obtain ⟨B1, m1, d1, B2, m2, d2, B3, m3, d3, e, h1, h2, h3⟩ := h
  injection e with e1 e
  injection e with e2 e
  injection e with e3 e
  injection e1 with a1 a2 a3
  injection e2 with b1 b2 b3
  injection e3 with f1 f2 f3
  subst a1 a2 a3 b1 b2 b3 f1 f2 f3
  exact ⟨h1, h2, h3⟩
/-- While a problem is put together. -/
structure PL (t : GTT) (w wr : World) (P B : Nat) (v cs : List Value) (bv ov : Value) (h p : Int) (os : List Int) : Prop where
  res : wr.heap[w.heap.size]? = some (.cells zProb 38 (0, 0))
  box : wr.heap[P]? = some (.cells (PRow v cs bv ov h p) 38 (0, 0))
  lt : w.heap.size < P ∧ P < B ∧ B ≤ wr.heap.size
  tt : TTIs wr (fun b => w.heap.size < b ∧ b < P) v t
  con : ConCells cs
  bs : ∃ A n c l, bv = .slice A n c ∧ Sl Ty.str wr (fun b => w.heap.size < b ∧ b < B ∧ b ≠ P) A n c l ∧ l.length ≤ 2
  own : Own (Ty.int .i64) 3 wr B ov os
  bel : Below w.heap.size w wr
section
variable {t : GTT} {w wr w' : World} {P B : Nat} {v cs : List Value} {bv ov ov' : Value} {h p : Int} {os os' : List Int}
theorem PL.v3 (hp : PL t w wr P B v cs bv ov h p os) : v.length = 3 := by
  obtain ⟨_, _, _, _, _, _, _, _, _, rfl, _⟩ := hp.tt
  rfl
theorem PL.next (hp : PL t w wr P B v cs bv ov h p os) (hb : Below wr.heap.size wr w') : PL t w w' P B v cs bv ov h p os := by
  have h2 := hp.lt
  have h3 := hb.size
  obtain ⟨A, n, c, l, e, hs, hl⟩ := hp.bs
  exact ⟨(hb.block _ (by omega)).trans hp.res, (hb.block _ (by omega)).trans hp.box, by omega, hp.tt.keep fun b hb' => hb.block b (by omega), hp.con,
    ⟨A, n, c, l, e, hs.keep fun b hb' => hb.block b (by omega), hl⟩, hp.own.next hb, hp.bel.trans (hb.mono hp.bel.size)⟩
theorem PL.raise (hp : PL t w wr P B v cs bv (.slice none 0 0) h p []) {B' : Nat} (h1 : B ≤ B') (h2 : B' ≤ wr.heap.size) : PL t w wr P B' v cs bv (.slice none 0 0) h p [] := by
  obtain ⟨A, n, c, l, e, hs, hl⟩ := hp.bs
  have h3 := hp.lt
  exact ⟨hp.res, hp.box, by omega, hp.tt, hp.con, ⟨A, n, c, l, e, hs.more fun b hb => by omega, hl⟩, Own.nil, hp.bel⟩
theorem PL.setB (hp : PL t w wr P B v cs bv ov h p os) {A : Option Addr} {n c : Nat} {l : List ByteArray} (hs : Sl Ty.str wr (fun b => w.heap.size < b ∧ b < B ∧ b ≠ P) A n c l) (hl : l.length ≤ 2) : PL t w (wr.setCell ⟨P, 17, none⟩ (.slice A n c)) P B v cs (.slice A n c) ov h p os := by
  have h2 := hp.lt
  have hk : ∀ q, q ≠ P → (wr.setCell ⟨P, 17, none⟩ (.slice A n c)).heap[q]? = wr.heap[q]? := fun q hq => heap_setCell_other _ _ _ _ hq
  refine ⟨(hk _ (by omega)).trans hp.res, ?_, by simp; omega, hp.tt.keep fun b hb' => hk b (by omega), hp.con, ⟨A, n, c, l, rfl, hs.keep fun b hb' => hk b hb'.2.2, hl⟩, hp.own.flatC (fun h => h) fun q hq => hk q (by have := (hp.own.lt q hq).1; omega), hp.bel.setCell (show w.heap.size ≤ P by omega) _⟩
  rw [← PRow_set17 hp.v3 hp.con.1 (b := bv)]
  exact heap_setCell_same _ _ _ _ _ _ hp.box
theorem PL.setH (hp : PL t w wr P B v cs bv ov h p os) (h' : Int) : PL t w (wr.setCell ⟨P, 19, none⟩ (.int .i64 h')) P B v cs bv ov h' p os := by
  have h2 := hp.lt
  have hk : ∀ q, q ≠ P → (wr.setCell ⟨P, 19, none⟩ (.int .i64 h')).heap[q]? = wr.heap[q]? := fun q hq => heap_setCell_other _ _ _ _ hq
  obtain ⟨A, n, c, l, e, hs, hl⟩ := hp.bs
  refine ⟨(hk _ (by omega)).trans hp.res, ?_, by simp; omega, hp.tt.keep fun b hb' => hk b (by omega), hp.con, ⟨A, n, c, l, e, hs.keep fun b hb' => hk b hb'.2.2, hl⟩, hp.own.flatC (fun h => h) fun q hq => hk q (by have := (hp.own.lt q hq).1; omega), hp.bel.setCell (show w.heap.size ≤ P by omega) _⟩
  rw [← PRow_set19 hp.v3 hp.con.1 (h := h)]
  exact heap_setCell_same _ _ _ _ _ _ hp.box
theorem PL.box8 (hp : PL t w wr P B v cs bv ov h p os) (hg : wr.grownBy w' ov.ownBlock) : w'.heap[P]? = some (.cells (PRow v cs bv ov h p) 38 (0, 0)) := by
  have := hp.lt
  exact (hg.block _ (by omega) (fun e => by have := (hp.own.lt _ e.symm).1; omega)).trans hp.box
theorem PL.push (hp : PL t w wr P B v cs bv ov h p os) (hg : wr.grownBy w' ov.ownBlock) (hown : Own (Ty.int .i64) 3 w' B ov' os') : PL t w (w'.setCell ⟨P, 18, none⟩ ov') P B v cs bv ov' h p os' := by
  have h2 := hp.lt
  have h3 := hg.size
  have hk : ∀ q, q ≠ P → (w'.setCell ⟨P, 18, none⟩ ov').heap[q]? = w'.heap[q]? := fun q hq => heap_setCell_other _ _ _ _ hq
  have hk2 : ∀ q, q < B → q ≠ P → (w'.setCell ⟨P, 18, none⟩ ov').heap[q]? = wr.heap[q]? := fun q hq h => (hk q h).trans (hg.block q (by omega) fun e => by have := (hp.own.lt _ e.symm).1; omega)
  obtain ⟨A, n, c, l, e, hs, hl⟩ := hp.bs
  have hbel : Below w.heap.size w w' := hp.bel.grown hg (by omega) fun j hj => by have := (hp.own.lt j hj).1; omega
  refine ⟨(hk2 _ (by omega) (by omega)).trans hp.res, ?_, by simp; omega, hp.tt.keep fun b hb' => hk2 b (by omega) (by omega), hp.con, ⟨A, n, c, l, e, hs.keep fun b hb' => hk2 b (by omega) hb'.2.2, hl⟩, hown.flatC (fun h => h) fun q hq => hk q (by have := (hown.lt q hq).1; omega), hbel.setCell (show w.heap.size ≤ P by omega) _⟩
  rw [← PRow_set18 hp.v3 hp.con.1 (o := ov)]
  exact heap_setCell_same _ _ _ _ _ _ (hp.box8 hg)
/-- The end: the row is copied into the result's box. -/
theorem PL.done (hp : PL t w wr P B v cs bv ov h p os) (h0 : 0 < os.length) (h5 : os.length ≤ 5) : ProbIs (wr.setRow w.heap.size (PRow v cs bv ov h p)) (all_ (wr.setRow w.heap.size (PRow v cs bv ov h p))) (v ++ (cs ++ [bv, ov, .int .i64 h, .int .i64 p])) t := by
  have h2 := hp.lt
  have hs2 : (wr.setRow w.heap.size (PRow v cs bv ov h p)).heap.size = wr.heap.size := by simp
  have hk : ∀ q, w.heap.size < q → (wr.setRow w.heap.size (PRow v cs bv ov h p)).heap[q]? = wr.heap[q]? := fun q hq => setRow_other _ _ _ _ (by omega)
  obtain ⟨A, n, c, l, e, hs, hl⟩ := hp.bs
  obtain ⟨A2, c2, e2, hs2'⟩ := hp.own.sl
  refine ⟨v, cs, A, n, c, A2, _, c2, l, os, h, p, by rw [e, e2], (hp.tt.keep fun b hb => hk b hb.1).more fun b hb => ?_, hp.con, (hs.keep fun b hb => hk b hb.1).more fun b hb => ?_, (hs2'.keep fun b hb => hk b (by omega)).more fun b hb => ?_, h0, h5, hl⟩
  all_goals
    show b < _
    rw [hs2]
    omega
end
end Go.Proofs.YtifconapjfdkcaaGreatDoor
/-
  Contract of pairingdata.Timetable: the timetable of the plain function.
  Condition: the numbers read as a list; at most nine flights.
-/
namespace Go.Proofs.YtifconapjfdkcaaGreatDoor
set_option linter.unusedSimpArgs false
set_option linter.unusedVariables false
open Go.RowKit

theorem below_setRowD {n : Nat} {w w' : World} {b : Nat} {cs : Array Value} (h : Below n w w') (hb : n ≤ b) : Below n w (w'.setRow b cs) :=
  ⟨h.os, h.tape, h.output, by simpa using h.size, fun q hq => (setRow_other _ _ _ _ (by omega)).trans (h.block q hq)⟩
theorem at_ofBlock {w : World} {g : Nat} {cs : List Value} {T : TypeId} (h : w.heap[g]? = some (.cells cs.toArray T (0, 0))) : At w g 0 cs := fun j u hu => by
  rw [block_cell h, Nat.zero_add]
  simpa using hu
theorem gap_cell (q : Nat) (hq : q < 8) (V : World) : (V.alloc (.cells #[.int .i64 75, .int .i64 100, .int .i64 130, .int .i64 240, .int .i64 60, .int .i64 700, .int .i64 95, .int .i64 110] 3)).cell? ⟨V.heap.size, q, none⟩ = some (.int .i64 (dGaps.getD q 0)) := by
  have h := heap_alloc_new V (.cells #[.int .i64 75, .int .i64 100, .int .i64 130, .int .i64 240, .int .i64 60, .int .i64 700, .int .i64 95, .int .i64 110] 3)
  have : q = 0 ∨ q = 1 ∨ q = 2 ∨ q = 3 ∨ q = 4 ∨ q = 5 ∨ q = 6 ∨ q = 7 := by omega
  rcases this with rfl | rfl | rfl | rfl | rfl | rfl | rfl | rfl
  all_goals exact block_cell h _
theorem dNum_cell (k : Nat) (hk : k < 9) (V : World) (g : Nat) (h : V.heap[g]? = some (.cells #[.string ⟨#[70, 48]⟩, .string ⟨#[70, 49]⟩, .string ⟨#[70, 50]⟩, .string ⟨#[70, 51]⟩, .string ⟨#[70, 52]⟩, .string ⟨#[70, 53]⟩, .string ⟨#[70, 54]⟩, .string ⟨#[70, 55]⟩, .string ⟨#[70, 56]⟩] 9 (0, 0))) : V.cell? ⟨g, k, none⟩ = some (.string (dNum k)) := by
  have : k = 0 ∨ k = 1 ∨ k = 2 ∨ k = 3 ∨ k = 4 ∨ k = 5 ∨ k = 6 ∨ k = 7 ∨ k = 8 := by omega
  rcases this with rfl | rfl | rfl | rfl | rfl | rfl | rfl | rfl | rfl
  all_goals exact block_cell h _
set_option maxRecDepth 100000 in
set_option maxHeartbeats 6400000 in
theorem dataTT_any (l : List Int) (A : Option Addr) (n c m : Nat) (w : World) (h : Sl (Ty.int .i64) w (all_ w) A n c l) (hm : m ≤ 9) :
    Calls Tryz.prog 33 #[.slice A n c, .int .i64 m] w (fun e w' => ∃ v, e = .returned (.agg v.toArray) ∧ TTIs w' (fun b => w.heap.size < b ∧ b < w'.heap.size) v (dTT l m) ∧ Below w.heap.size w w') := by
  have HS : Hid (∀ V, Below w.heap.size w V → Sl (Ty.int .i64) V (all_ V) A n c l) := fun V hV => h.next hV
  clear h
  go_enter Tryz.func33, Tryz.ntmps33
  go_wp2_with fail
  go_loopw [6, 8] (fun s6 s8 wr => ∃ (k : Nat) (v : Value), k ≤ m ∧ s8 = .int .i64 k ∧ s6 = .int .i64 (dSt l k).1 ∧ DT w wr v (dSt l k).2) (fun _ s8 _ => m - (intOf s8).toNat)
  case atStart => exact ⟨0, .slice none 0 0, Nat.zero_le _, rfl, rfl, DT.start w⟩
  case round =>
    obtain ⟨k, v, hk, rfl, rfl, hdt⟩ := hrel
    have hclk := dSt_range l k
    have HLN : Hid ((dSt l k).2.length = k) := hclk.2.2
    have hc1 := hclk.1
    have hc2 := hclk.2.1
    clear hclk
    by_cases hlt : k < m
    · have HSU : Hid ((dSt l (k + 1)).1 = dClock (atL l k) (dSt l k).1 ∧ (dSt l (k + 1)).2 = (dSt l k).2 ++ [dFlight (atL l k) (dSt l k).1 k]) := ⟨rfl, rfl⟩
      have hat := atL_range l k
      have HSL := Lib.hid (HS.out wr hdt.below)
      have HAT := Lib.hid (dataAt_any l A n c k wr HSL.out (by omega))
      have HDT0 := Lib.hid hdt
      clear hdt HSL
      generalize (dSt l k).1 = ck at *
      generalize (dSt l k).2 = fs at *
      generalize hc2e : (dSt l (k + 1)).1 = ck2 at *
      generalize hf2e : (dSt l (k + 1)).2 = fs2 at *
      have HC2 := Lib.hid hc2e
      have HF2 := Lib.hid hf2e
      clear hc2e hf2e
      generalize atL l k = a at *
      go_upto_region 8 with (fail)
      go_upto_region 9 with (go_at_call 32; refine HAT.out.mono ?_; rintro e wk ⟨rfl, hbk⟩)
      have HDT := Lib.hid (HDT0.out.next hbk)
      clear HAT HDT0 hbk
      have hA1 := and1 (k : Int)
      have hA7 := and_7 a
      go_upto_block 2 with (fail)
      go_cut [10] (fun s wx => s = .int .i64 ((dRoute a k : Nat) : Int) ∧ wx = wk)
      case first =>
        have HR : Hid (∀ n : Int, n = ((dRoute a k : Nat) : Int) → Value.int .i64 n = .int .i64 ((dRoute a k : Nat) : Int)) := fun n e => by rw [e]
        have q1 : IntKind.i64.wrap (2 + (k : Int) % 2) = 2 + (k : Int) % 2 := IntWalk.i64_in _ (by omega)
        have q2 : IntKind.i64.wrap (3 - (k : Int) % 2) = 3 - (k : Int) % 2 := IntWalk.i64_in _ (by omega)
        have q3 : (a / 8).tmod 6 = a / 8 % 6 := Int.tmod_eq_emod_of_nonneg (by omega)
        have q4 : IntKind.i64.wrap (a / 8 % 6) = a / 8 % 6 := IntWalk.i64_in _ (by omega)
        have q5 : IntKind.i64.wrap (a / 8) = a / 8 := IntWalk.i64_in _ (by omega)
        by_cases h5 : a % 8 = 5
        · have HV : Hid (2 + (k : Int) % 2 = ((dRoute a k : Nat) : Int)) := by show _ = _; unfold dRoute; rw [if_pos h5]; omega
          go_wp2_with fail
          go_meet
          exact ⟨HR.out _ HV.out, rfl⟩
        by_cases h6 : a % 8 = 6
        · have HV : Hid (3 - (k : Int) % 2 = ((dRoute a k : Nat) : Int)) := by show _ = _; unfold dRoute; rw [if_neg h5, if_pos h6]; omega
          clear h5
          go_wp2_with fail
          go_meet
          exact ⟨HR.out _ HV.out, rfl⟩
        by_cases h7 : a % 8 = 7
        · have HV : Hid (a / 8 % 6 = ((dRoute a k : Nat) : Int)) := by show _ = _; unfold dRoute; rw [if_neg h5, if_neg h6, if_pos h7]; omega
          clear h5 h6
          go_wp2_with fail
          go_meet
          exact ⟨HR.out _ HV.out, rfl⟩
        · have HV : Hid ((k : Int) % 2 = ((dRoute a k : Nat) : Int)) := by show _ = _; unfold dRoute; rw [if_neg h5, if_neg h6, if_neg h7]; omega
          have g5 : (a % 8 == 5) = false := by simpa using h5
          have g6 : (a % 8 == 6) = false := by simpa using h6
          have g7 : (a % 8 == 7) = false := by simpa using h7
          clear h5 h6 h7
          go_wp2_with fail
          go_meet
          exact ⟨HR.out _ HV.out, rfl⟩
      case rest =>
      obtain ⟨rfl, rfl⟩ := hcut
      have hr := dRoute_lt a k
      obtain ⟨r, hre⟩ : ∃ r, dRoute a k = r := ⟨_, rfl⟩
      have HRR := Lib.hid hre
      rw [hre] at hr
      rw [hre]
      clear hre
      obtain ⟨q, hq⟩ : ∃ q : Nat, a / 256 % 8 = (q : Int) := ⟨(a / 256 % 8).toNat, by omega⟩
      have hqr : q < 8 := by omega
      have hgr := dGaps_range q hqr
      have HQA : Hid (bits .and .i64 (a / 256) 7 = (q : Int)) := by show _ = _; rw [and_7, hq]
      have HQW : Hid (IntKind.i64.wrap (ck + dGaps.getD q 0) = ck + dGaps.getD q 0) := IntWalk.i64_in _ (by omega)
      have HCK : Hid (Value.int .i64 (ck + dGaps.getD q 0) = .int .i64 ck2) := by
        show _ = _
        rw [HSU.out.1]
        unfold dClock
        rw [hq]
        rfl
      clear hq hgr
      have HGP : Hid (∀ V : World, _) := gap_cell q hqr
      generalize dGaps.getD q 0 = gp at *
      have HRT := Lib.hid (HDT.out.route r hr)
      have HK9 : Hid ((k : Int).tmod 9 = (k : Int)) := by show _ = _; rw [Int.tmod_eq_emod_of_nonneg (by omega)]; omega
      have HNUM : Hid (∀ (V : World) (g : Nat), V.heap[g]? = some (.cells #[.string ⟨#[70, 48]⟩, .string ⟨#[70, 49]⟩, .string ⟨#[70, 50]⟩, .string ⟨#[70, 51]⟩, .string ⟨#[70, 52]⟩, .string ⟨#[70, 53]⟩, .string ⟨#[70, 54]⟩, .string ⟨#[70, 55]⟩, .string ⟨#[70, 56]⟩] 9 (0, 0)) → V.cell? ⟨g, k, none⟩ = some (.string (dNum k))) := fun V g h => dNum_cell k (by omega) V g h
      have HQ19 : Hid (IntKind.i64.wrap (ck + 60) = ck + 60) := IntWalk.i64_in _ (by omega)
      have HQ22 := Lib.hid (and1 (a / 64))
      have HQ23 : Hid (IntKind.i64.wrap (30 * (a / 64 % 2)) = 30 * (a / 64 % 2)) := IntWalk.i64_in _ (by omega)
      have HQ24 : Hid (IntKind.i64.wrap (ck + 60 + 30 * (a / 64 % 2)) = ck + 60 + 30 * (a / 64 % 2)) := IntWalk.i64_in _ (by omega)
      go_upto_region 17 with (fail)
      refine wp_region_factsB 28 [57, 58, 59, 60, 61, 62, 63, 64, 65, 66, 67, 68, 69, 70, 71, 72, 73, 74, 75, 76, 77, 78, 79, 80, 81, 82, 83, 11] (fun i v x => (([(fun v x => ∃ g, v = .slice (some ⟨g, 0, none⟩) 9 9 ∧ x.heap[g]? = some (.cells #[.string ⟨#[70, 48]⟩, .string ⟨#[70, 49]⟩, .string ⟨#[70, 50]⟩, .string ⟨#[70, 51]⟩, .string ⟨#[70, 52]⟩, .string ⟨#[70, 53]⟩, .string ⟨#[70, 54]⟩, .string ⟨#[70, 55]⟩, .string ⟨#[70, 56]⟩] 9 (0, 0))), (fun v x => v = .int .i64 k), (fun v x => v = .int .i64 k), (fun v x => ∃ g, v = .pointer (some ⟨g, k, none⟩) ∧ x.cell? ⟨g, k, none⟩ = some (.string (dNum k))), (fun v x => v = .string (dNum k)), (fun v x => v = .slice (some ⟨w.heap.size + 1 + 1 + 1 + 1 + 1 + 1 + 1 + 1 + 1 + 1 + 1, 0, none⟩) 6 6), (fun v x => v = .int .i64 r), (fun v x => v = .pointer (some ⟨w.heap.size + 11, r, none⟩)), (fun v x => v = .slice (some ⟨w.heap.size + 5 + r, 0, none⟩) 2 2), (fun v x => v = .pointer (some ⟨w.heap.size + 5 + r, 0, none⟩)), (fun v x => v = .string (dCode (dFrom r))), (fun v x => v = .slice (some ⟨w.heap.size + 1 + 1 + 1 + 1 + 1 + 1 + 1 + 1 + 1 + 1 + 1, 0, none⟩) 6 6), (fun v x => v = .int .i64 r), (fun v x => v = .pointer (some ⟨w.heap.size + 11, r, none⟩)), (fun v x => v = .slice (some ⟨w.heap.size + 5 + r, 0, none⟩) 2 2), (fun v x => v = .pointer (some ⟨w.heap.size + 5 + r, 1, none⟩)), (fun v x => v = .string (dCode (dTo r))), (fun v x => v = .int .i64 ck), (fun v x => v = .int .i64 ck), (fun v x => v = .int .i64 (ck + 60)), (fun v x => v = .int .i64 a), (fun v x => v = .int .i64 (a / 64)), (fun v x => v = .int .i64 (a / 64 % 2)), (fun v x => v = .int .i64 (30 * (a / 64 % 2))), (fun v x => v = .int .i64 (ck + 60 + 30 * (a / 64 % 2))), (fun v x => v = .agg #[.int .i64 1, .int .i64 1, .int .i64 0]), (fun v x => v = .agg #[.string (dNum k), .string (dCode (dFrom r)), .string (dCode (dTo r)), .int .i64 ck, .int .i64 (ck + 60 + 30 * (a / 64 % 2)), .string ⟨#[98, 55, 51, 55]⟩, .int .i64 1, .int .i64 1, .int .i64 0]), (fun v x => ∃ g, v = .pointer (some ⟨g, 0, none⟩) ∧ wc.heap.size ≤ g ∧ x.heap[g]? = some (.cells #[.string ⟨#[]⟩, .string ⟨#[]⟩, .string ⟨#[]⟩, .int .i64 0, .int .i64 0, .string ⟨#[]⟩, .int .i64 0, .int .i64 0, .int .i64 0] 62 (0, 0)))] : List (Value → World → Prop)).getD i (fun _ _ => True)) v x) (by kernel_rfl) (by kernel_rfl) (by kernel_rfl) (by kernel_rfl) (by kernel_rfl) ?_ ?_ ?_
      · intro i v x x' h hx
        rcases Nat.lt_or_ge i 28 with hi | hi
        · have hi' : i = 0 ∨ i = 1 ∨ i = 2 ∨ i = 3 ∨ i = 4 ∨ i = 5 ∨ i = 6 ∨ i = 7 ∨ i = 8 ∨ i = 9 ∨ i = 10 ∨ i = 11 ∨ i = 12 ∨ i = 13 ∨ i = 14 ∨ i = 15 ∨ i = 16 ∨ i = 17 ∨ i = 18 ∨ i = 19 ∨ i = 20 ∨ i = 21 ∨ i = 22 ∨ i = 23 ∨ i = 24 ∨ i = 25 ∨ i = 26 ∨ i = 27 := by omega
          rcases hi' with rfl | rfl | rfl | rfl | rfl | rfl | rfl | rfl | rfl | rfl | rfl | rfl | rfl | rfl | rfl | rfl | rfl | rfl | rfl | rfl | rfl | rfl | rfl | rfl | rfl | rfl | rfl | rfl
          · exact (by obtain ⟨g, e, h1⟩ := h; exact ⟨g, e, (hx.block g (Array.getElem?_eq_some_iff.1 h1).1).trans h1⟩)
          · exact h
          · exact h
          · exact (by obtain ⟨g, e, h1⟩ := h; exact ⟨g, e, cell_kept h1 hx⟩)
          · exact h
          · exact h
          · exact h
          · exact h
          · exact h
          · exact h
          · exact h
          · exact h
          · exact h
          · exact h
          · exact h
          · exact h
          · exact h
          · exact h
          · exact h
          · exact h
          · exact h
          · exact h
          · exact h
          · exact h
          · exact h
          · exact h
          · exact h
          · exact (by obtain ⟨g, e, h1, h2⟩ := h; exact ⟨g, e, h1, (hx.block g (Array.getElem?_eq_some_iff.1 h2).1).trans h2⟩)
        · rw [List.getD_eq_getElem?_getD, List.getElem?_eq_none (by simpa using hi)]; trivial
      · intro q o' hq ho a' w' hb' hout hpre K hK
        have hq' : q = 0 ∨ q = 1 ∨ q = 2 ∨ q = 3 ∨ q = 4 ∨ q = 5 ∨ q = 6 ∨ q = 7 ∨ q = 8 ∨ q = 9 ∨ q = 10 ∨ q = 11 ∨ q = 12 ∨ q = 13 ∨ q = 14 ∨ q = 15 ∨ q = 16 ∨ q = 17 ∨ q = 18 ∨ q = 19 ∨ q = 20 ∨ q = 21 ∨ q = 22 ∨ q = 23 ∨ q = 24 ∨ q = 25 ∨ q = 26 ∨ q = 27 := by omega
        rcases hq' with rfl | rfl | rfl | rfl | rfl | rfl | rfl | rfl | rfl | rfl | rfl | rfl | rfl | rfl | rfl | rfl | rfl | rfl | rfl | rfl | rfl | rfl | rfl | rfl | rfl | rfl | rfl | rfl
        · obtain rfl := Option.some.inj ho
          go_simp
          exact hK _ _ ⟨w'.heap.size, rfl, heap_alloc_new _ _⟩ ((Below.refl _ _).alloc (Nat.le_refl _) _)
        · obtain rfl := Option.some.inj ho
          have e8 : a'.tmps[8]? = some (.int .i64 k) := hout 8 (by decide)
          go_simp
          exact hK (.int .i64 k) w' rfl (Below.refl _ _)
        · obtain rfl := Option.some.inj ho
          have p1 : a'.tmps.getD 58 undef = .int .i64 k := hpre ⟨1, .data⟩ (by simp) 58 rfl
          simp only [Array.getD_eq_getD_getElem?] at p1
          have q1 := HK9.out
          go_simp
          exact hK (.int .i64 k) w' rfl (Below.refl _ _)
        · obtain rfl := Option.some.inj ho
          have p0 := hpre ⟨0, .data⟩ (by simp) 57 rfl
          simp only [Array.getD_eq_getD_getElem?] at p0
          have p2 : a'.tmps.getD 59 undef = .int .i64 k := hpre ⟨2, .data⟩ (by simp) 59 rfl
          simp only [Array.getD_eq_getD_getElem?] at p2
          obtain ⟨g, p0, hg⟩ := p0
          have q3 : (0 : Int) ≤ (k : Int) := by omega
          have q4 : (k : Int) < 9 := by omega
          have hc := HNUM.out w' g hg
          go_simp
          exact hK _ _ ⟨g, rfl, hc⟩ (Below.refl _ _)
        · obtain rfl := Option.some.inj ho
          have p3 := hpre ⟨3, .data⟩ (by simp) 60 rfl
          simp only [Array.getD_eq_getD_getElem?] at p3
          obtain ⟨g, p3, hc⟩ := p3
          go_simp
          exact hK (.string (dNum k)) w' rfl (Below.refl _ _)
        · obtain rfl := Option.some.inj ho
          have e7 : a'.tmps[7]? = some (.slice (some ⟨w.heap.size + 1 + 1 + 1 + 1 + 1 + 1 + 1 + 1 + 1 + 1 + 1, 0, none⟩) 6 6) := hout 7 (by decide)
          go_simp
          exact hK (.slice (some ⟨w.heap.size + 1 + 1 + 1 + 1 + 1 + 1 + 1 + 1 + 1 + 1 + 1, 0, none⟩) 6 6) w' rfl (Below.refl _ _)
        · obtain rfl := Option.some.inj ho
          have e10 : a'.tmps[10]? = some (.int .i64 r) := hout 10 (by decide)
          go_simp
          exact hK (.int .i64 r) w' rfl (Below.refl _ _)
        · obtain rfl := Option.some.inj ho
          have p5 : a'.tmps.getD 62 undef = .slice (some ⟨w.heap.size + 1 + 1 + 1 + 1 + 1 + 1 + 1 + 1 + 1 + 1 + 1, 0, none⟩) 6 6 := hpre ⟨5, .data⟩ (by simp) 62 rfl
          simp only [Array.getD_eq_getD_getElem?] at p5
          have p6 : a'.tmps.getD 63 undef = .int .i64 r := hpre ⟨6, .data⟩ (by simp) 63 rfl
          simp only [Array.getD_eq_getD_getElem?] at p6
          have q3 : (0 : Int) ≤ (r : Int) := by omega
          have q4 : (r : Int) < 6 := by omega
          go_simp
          exact hK (.pointer (some ⟨w.heap.size + 11, r, none⟩)) w' rfl (Below.refl _ _)
        · obtain rfl := Option.some.inj ho
          have p7 : a'.tmps.getD 64 undef = .pointer (some ⟨w.heap.size + 11, r, none⟩) := hpre ⟨7, .data⟩ (by simp) 64 rfl
          simp only [Array.getD_eq_getD_getElem?] at p7
          have hc := cell_kept (HRT.out.1) hb'
          go_simp
          exact hK (.slice (some ⟨w.heap.size + 5 + r, 0, none⟩) 2 2) w' rfl (Below.refl _ _)
        · obtain rfl := Option.some.inj ho
          have p8 : a'.tmps.getD 65 undef = .slice (some ⟨w.heap.size + 5 + r, 0, none⟩) 2 2 := hpre ⟨8, .data⟩ (by simp) 65 rfl
          simp only [Array.getD_eq_getD_getElem?] at p8
          go_simp
          exact hK (.pointer (some ⟨w.heap.size + 5 + r, 0, none⟩)) w' rfl (Below.refl _ _)
        · obtain rfl := Option.some.inj ho
          have p9 : a'.tmps.getD 66 undef = .pointer (some ⟨w.heap.size + 5 + r, 0, none⟩) := hpre ⟨9, .data⟩ (by simp) 66 rfl
          simp only [Array.getD_eq_getD_getElem?] at p9
          have hc := cell_kept (HRT.out.2.1) hb'
          go_simp
          exact hK (.string (dCode (dFrom r))) w' rfl (Below.refl _ _)
        · obtain rfl := Option.some.inj ho
          have e7 : a'.tmps[7]? = some (.slice (some ⟨w.heap.size + 1 + 1 + 1 + 1 + 1 + 1 + 1 + 1 + 1 + 1 + 1, 0, none⟩) 6 6) := hout 7 (by decide)
          go_simp
          exact hK (.slice (some ⟨w.heap.size + 1 + 1 + 1 + 1 + 1 + 1 + 1 + 1 + 1 + 1 + 1, 0, none⟩) 6 6) w' rfl (Below.refl _ _)
        · obtain rfl := Option.some.inj ho
          have e10 : a'.tmps[10]? = some (.int .i64 r) := hout 10 (by decide)
          go_simp
          exact hK (.int .i64 r) w' rfl (Below.refl _ _)
        · obtain rfl := Option.some.inj ho
          have p11 : a'.tmps.getD 68 undef = .slice (some ⟨w.heap.size + 1 + 1 + 1 + 1 + 1 + 1 + 1 + 1 + 1 + 1 + 1, 0, none⟩) 6 6 := hpre ⟨11, .data⟩ (by simp) 68 rfl
          simp only [Array.getD_eq_getD_getElem?] at p11
          have p12 : a'.tmps.getD 69 undef = .int .i64 r := hpre ⟨12, .data⟩ (by simp) 69 rfl
          simp only [Array.getD_eq_getD_getElem?] at p12
          have q3 : (0 : Int) ≤ (r : Int) := by omega
          have q4 : (r : Int) < 6 := by omega
          go_simp
          exact hK (.pointer (some ⟨w.heap.size + 11, r, none⟩)) w' rfl (Below.refl _ _)
        · obtain rfl := Option.some.inj ho
          have p13 : a'.tmps.getD 70 undef = .pointer (some ⟨w.heap.size + 11, r, none⟩) := hpre ⟨13, .data⟩ (by simp) 70 rfl
          simp only [Array.getD_eq_getD_getElem?] at p13
          have hc := cell_kept (HRT.out.1) hb'
          go_simp
          exact hK (.slice (some ⟨w.heap.size + 5 + r, 0, none⟩) 2 2) w' rfl (Below.refl _ _)
        · obtain rfl := Option.some.inj ho
          have p14 : a'.tmps.getD 71 undef = .slice (some ⟨w.heap.size + 5 + r, 0, none⟩) 2 2 := hpre ⟨14, .data⟩ (by simp) 71 rfl
          simp only [Array.getD_eq_getD_getElem?] at p14
          go_simp
          exact hK (.pointer (some ⟨w.heap.size + 5 + r, 1, none⟩)) w' rfl (Below.refl _ _)
        · obtain rfl := Option.some.inj ho
          have p15 : a'.tmps.getD 72 undef = .pointer (some ⟨w.heap.size + 5 + r, 1, none⟩) := hpre ⟨15, .data⟩ (by simp) 72 rfl
          simp only [Array.getD_eq_getD_getElem?] at p15
          have hc := cell_kept (HRT.out.2.2) hb'
          go_simp
          exact hK (.string (dCode (dTo r))) w' rfl (Below.refl _ _)
        · obtain rfl := Option.some.inj ho
          have e6 : a'.tmps[6]? = some (.int .i64 ck) := hout 6 (by decide)
          go_simp
          exact hK (.int .i64 ck) w' rfl (Below.refl _ _)
        · obtain rfl := Option.some.inj ho
          have e6 : a'.tmps[6]? = some (.int .i64 ck) := hout 6 (by decide)
          go_simp
          exact hK (.int .i64 ck) w' rfl (Below.refl _ _)
        · obtain rfl := Option.some.inj ho
          have p18 : a'.tmps.getD 75 undef = .int .i64 ck := hpre ⟨18, .data⟩ (by simp) 75 rfl
          simp only [Array.getD_eq_getD_getElem?] at p18
          have q1 := HQ19.out
          go_simp
          exact hK (.int .i64 (ck + 60)) w' rfl (Below.refl _ _)
        · obtain rfl := Option.some.inj ho
          have e9 : a'.tmps[9]? = some (.int .i64 a) := hout 9 (by decide)
          go_simp
          exact hK (.int .i64 a) w' rfl (Below.refl _ _)
        · obtain rfl := Option.some.inj ho
          have p20 : a'.tmps.getD 77 undef = .int .i64 a := hpre ⟨20, .data⟩ (by simp) 77 rfl
          simp only [Array.getD_eq_getD_getElem?] at p20
          go_simp
          exact hK _ _ rfl (Below.refl _ _)
        · obtain rfl := Option.some.inj ho
          have p21 : a'.tmps.getD 78 undef = .int .i64 (a / 64) := hpre ⟨21, .data⟩ (by simp) 78 rfl
          simp only [Array.getD_eq_getD_getElem?] at p21
          have q1 := HQ22.out
          go_simp
          exact hK (.int .i64 (a / 64 % 2)) w' rfl (Below.refl _ _)
        · obtain rfl := Option.some.inj ho
          have p22 : a'.tmps.getD 79 undef = .int .i64 (a / 64 % 2) := hpre ⟨22, .data⟩ (by simp) 79 rfl
          simp only [Array.getD_eq_getD_getElem?] at p22
          have q1 := HQ23.out
          go_simp
          exact hK (.int .i64 (30 * (a / 64 % 2))) w' rfl (Below.refl _ _)
        · obtain rfl := Option.some.inj ho
          have p19 : a'.tmps.getD 76 undef = .int .i64 (ck + 60) := hpre ⟨19, .data⟩ (by simp) 76 rfl
          simp only [Array.getD_eq_getD_getElem?] at p19
          have p23 : a'.tmps.getD 80 undef = .int .i64 (30 * (a / 64 % 2)) := hpre ⟨23, .data⟩ (by simp) 80 rfl
          simp only [Array.getD_eq_getD_getElem?] at p23
          have q1 := HQ24.out
          go_simp
          exact hK (.int .i64 (ck + 60 + 30 * (a / 64 % 2))) w' rfl (Below.refl _ _)
        · obtain rfl := Option.some.inj ho
          go_simp
          exact hK (.agg #[.int .i64 1, .int .i64 1, .int .i64 0]) w' rfl (Below.refl _ _)
        · obtain rfl := Option.some.inj ho
          have p4 : a'.tmps.getD 61 undef = .string (dNum k) := hpre ⟨4, .data⟩ (by simp) 61 rfl
          simp only [Array.getD_eq_getD_getElem?] at p4
          have p10 : a'.tmps.getD 67 undef = .string (dCode (dFrom r)) := hpre ⟨10, .data⟩ (by simp) 67 rfl
          simp only [Array.getD_eq_getD_getElem?] at p10
          have p16 : a'.tmps.getD 73 undef = .string (dCode (dTo r)) := hpre ⟨16, .data⟩ (by simp) 73 rfl
          simp only [Array.getD_eq_getD_getElem?] at p16
          have p17 : a'.tmps.getD 74 undef = .int .i64 ck := hpre ⟨17, .data⟩ (by simp) 74 rfl
          simp only [Array.getD_eq_getD_getElem?] at p17
          have p24 : a'.tmps.getD 81 undef = .int .i64 (ck + 60 + 30 * (a / 64 % 2)) := hpre ⟨24, .data⟩ (by simp) 81 rfl
          simp only [Array.getD_eq_getD_getElem?] at p24
          have p25 : a'.tmps.getD 82 undef = .agg #[.int .i64 1, .int .i64 1, .int .i64 0] := hpre ⟨25, .data⟩ (by simp) 82 rfl
          simp only [Array.getD_eq_getD_getElem?] at p25
          go_simp
          exact hK (.agg #[.string (dNum k), .string (dCode (dFrom r)), .string (dCode (dTo r)), .int .i64 ck, .int .i64 (ck + 60 + 30 * (a / 64 % 2)), .string ⟨#[98, 55, 51, 55]⟩, .int .i64 1, .int .i64 1, .int .i64 0]) w' rfl (Below.refl _ _)
        · obtain rfl := Option.some.inj ho
          go_simp
          exact hK _ _ ⟨w'.heap.size, rfl, hb'.size, heap_alloc_new _ _⟩ ((Below.refl _ _).alloc (Nat.le_refl _) _)
      · intro us w7 hb' hfacts
        obtain ⟨g, h27, hg, hgc⟩ := hfacts 27 (by decide)
        have h26 : us 26 = .agg #[.string (dNum k), .string (dCode (dFrom r)), .string (dCode (dTo r)), .int .i64 ck, .int .i64 (ck + 60 + 30 * (a / 64 % 2)), .string ⟨#[98, 55, 51, 55]⟩, .int .i64 1, .int .i64 1, .int .i64 0] := hfacts 26 (by decide)
        clear hfacts
        simp only [putL, Act.put, List.setIfInBounds_toArray, List.set_cons_zero, List.set_cons_succ, Nat.zero_add, Nat.reduceAdd]
        generalize us 27 = x27 at *
        generalize us 26 = x26 at *
        subst h27
        subst h26
        simp only [List.drop_succ_cons, List.drop_zero]
        refine wpList_store_row rfl _ _ _ rfl g #[.string (dNum k), .string (dCode (dFrom r)), .string (dCode (dTo r)), .int .i64 ck, .int .i64 (ck + 60 + 30 * (a / 64 % 2)), .string ⟨#[98, 55, 51, 55]⟩, .int .i64 1, .int .i64 1, .int .i64 0] (by simp [Act.eval, Act.put]) (by simp [Act.eval, Act.put]) _ _ hgc (by kernel_rfl) rfl (by simp [Value.oneCell']) ?_
        have HG : Hid ((w7.setRow g #[.string (dNum k), .string (dCode (dFrom r)), .string (dCode (dTo r)), .int .i64 ck, .int .i64 (ck + 60 + 30 * (a / 64 % 2)), .string ⟨#[98, 55, 51, 55]⟩, .int .i64 1, .int .i64 1, .int .i64 0]).heap[g]? = _) := setRow_heap _ _ _ _ _ _ hgc
        have HW7 : Hid (Below wc.heap.size wc (w7.setRow g #[.string (dNum k), .string (dCode (dFrom r)), .string (dCode (dTo r)), .int .i64 ck, .int .i64 (ck + 60 + 30 * (a / 64 % 2)), .string ⟨#[98, 55, 51, 55]⟩, .int .i64 1, .int .i64 1, .int .i64 0])) := below_setRowD hb' hg
        generalize w7.setRow g #[.string (dNum k), .string (dCode (dFrom r)), .string (dCode (dTo r)), .int .i64 ck, .int .i64 (ck + 60 + 30 * (a / 64 % 2)), .string ⟨#[98, 55, 51, 55]⟩, .int .i64 1, .int .i64 1, .int .i64 0] = w8 at *
        clear hb' hgc

        have HW8 := HW7
        clear HW7
        have g8 : bits .and .i64 (a / 128) 7 = a / 128 % 8 := and_7 _
        by_cases ht : a / 128 % 8 = 7
        · have y5 := block_cell HG.out 5
          have f5 := block_free HG.out 5
          go_upto_region 20 with (fail)
          have HG2 : Hid ((w8.setCell ⟨g, 5, none⟩ (.string ⟨#[97, 51, 50, 48]⟩)).heap[g]? = some (.cells #[.string (dNum k), .string (dCode (dFrom r)), .string (dCode (dTo r)), .int .i64 ck, .int .i64 (ck + 60 + 30 * (a / 64 % 2)), .string ⟨#[97, 51, 50, 48]⟩, .int .i64 1, .int .i64 1, .int .i64 0] 62 (0, 0))) := heap_setCell_same _ _ _ _ _ _ HG.out
          have HW9 : Hid (Below wc.heap.size wc (w8.setCell ⟨g, 5, none⟩ (.string ⟨#[97, 51, 50, 48]⟩))) := HW8.out.setCell (show wc.heap.size ≤ g from hg) _
          clear HW8 HG y5 f5
          have HW8 := HW9
          have HG := HG2
          clear HW9 HG2
          generalize w8.setCell ⟨g, 5, none⟩ (.string ⟨#[97, 51, 50, 48]⟩) = w8 at *
          have g16 : bits .and .i64 (a / 1024) 15 = a / 1024 % 16 := and_15 _
          by_cases hd : a / 1024 % 16 = 15
          · have y6 := block_cell HG.out 6; have y7 := block_cell HG.out 7; have y8 := block_cell HG.out 8
            have f6 := block_free HG.out 6; have f7 := block_free HG.out 7; have f8 := block_free HG.out 8
            go_upto_region 22 with (fail)
            have HG2 : Hid ((((w8.setCell ⟨g, 6, none⟩ (.int .i64 1)).setCell ⟨g, 7, none⟩ (.int .i64 0)).setCell ⟨g, 8, none⟩ (.int .i64 0)).heap[g]? = some (.cells #[.string (dNum k), .string (dCode (dFrom r)), .string (dCode (dTo r)), .int .i64 ck, .int .i64 (ck + 60 + 30 * (a / 64 % 2)), .string ⟨#[97, 51, 50, 48]⟩, .int .i64 1, .int .i64 0, .int .i64 0] 62 (0, 0))) := heap_setCell_same _ _ _ _ _ _ (heap_setCell_same _ _ _ _ _ _ (heap_setCell_same _ _ _ _ _ _ HG.out))
            have HW9 : Hid (Below wc.heap.size wc (((w8.setCell ⟨g, 6, none⟩ (.int .i64 1)).setCell ⟨g, 7, none⟩ (.int .i64 0)).setCell ⟨g, 8, none⟩ (.int .i64 0))) := ((HW8.out.setCell (show wc.heap.size ≤ g from hg) _).setCell (show wc.heap.size ≤ g from hg) _).setCell (show wc.heap.size ≤ g from hg) _
            clear HW8 HG y6 y7 y8 f6 f7 f8
            have HW8 := HW9
            have HG := HG2
            clear HW9 HG2
            generalize ((w8.setCell ⟨g, 6, none⟩ (.int .i64 1)).setCell ⟨g, 7, none⟩ (.int .i64 0)).setCell ⟨g, 8, none⟩ (.int .i64 0) = w8 at *
            have HFL : Hid ((flightCells (dFlight a ck k)).toArray = #[.string (dNum k), .string (dCode (dFrom r)), .string (dCode (dTo r)), .int .i64 ck, .int .i64 (ck + 60 + 30 * (a / 64 % 2)), .string ⟨#[97, 51, 50, 48]⟩, .int .i64 1, .int .i64 0, .int .i64 0]) := by
              show _ = _
              unfold dFlight flightCells
              rw [HRR.out, if_pos ht, if_pos hd]
              rfl
            clear ht hd
            have z0 := block_cell HG.out 0; have z1 := block_cell HG.out 1; have z2 := block_cell HG.out 2; have z3 := block_cell HG.out 3; have z4 := block_cell HG.out 4; have z5 := block_cell HG.out 5; have z6 := block_cell HG.out 6; have z7 := block_cell HG.out 7; have z8 := block_cell HG.out 8
            have hd8 := HDT.out.next HW8.out
            have y2 := block_cell hd8.box 2
            have HD8 := Lib.hid hd8
            have hs8 := hd8.size
            clear hd8
            go_wp2_with (at_builtin; refine wpList_push (t := Ty.flight) rfl _ _ _ rfl 104 elem_flight rfl (HD8.out.own.alloc _) w8.heap.size (dFlight a ck k) (fun _ => False) rfl ⟨flightCells (dFlight a ck k), rfl, ?ca⟩ (fun _ h => h.elim) ?c1 (by decide) ?c2 ?_)
            case ca => exact at_ofBlock (by rw [HFL.out]; exact heap_alloc_new _ _)
            case c1 => rw [HLN.out]; omega
            case c2 => simp; omega
            intro v' w9 hown9 hgr9
            rw [← HSU.out.2] at hown9
            obtain ⟨A9, c9, rfl, -⟩ := hown9.sl
            generalize fs2.length = n9 at *
            have hd9 : DT w (w8.alloc (.cells #[.string (dNum k), .string (dCode (dFrom r)), .string (dCode (dTo r)), .int .i64 ck, .int .i64 (ck + 60 + 30 * (a / 64 % 2)), .string ⟨#[97, 51, 50, 48]⟩, .int .i64 1, .int .i64 0, .int .i64 0] 62)) v fs := HD8.out.next ((Below.refl _ _).alloc (Nat.le_refl _) _)
            have y2 := block_cell (hd9.box8 hgr9) 2
            have f2 := block_free (hd9.box8 hgr9) 2
            have HD9 := Lib.hid (hd9.push hgr9 hown9)
            clear hd9 hown9 hgr9 z0 z1 z2 z3 z4 z5 z6 z7 z8 HG HD8 HW8 HFL
            go_upto_region 23 with (fail)
            generalize w9.setCell ⟨w.heap.size + 3, 2, none⟩ (.slice A9 n9 c9) = w10 at *
            clear y2 f2
            have hgp := HGP.out w10
            have hq1 := HQA.out
            have hq2 := HQW.out
            have HN := Lib.hid (HD9.out.next ((Below.refl w10.heap.size w10).alloc (Nat.le_refl _) (.cells #[.int .i64 75, .int .i64 100, .int .i64 130, .int .i64 240, .int .i64 60, .int .i64 700, .int .i64 95, .int .i64 110] 3)))
            have hq8 : (q : Int) < 8 := by omega
            have hq0 : (0 : Int) ≤ (q : Int) := by omega
            go_wp2_with fail
            go_roundw
            case rel => exact ⟨k + 1, _, by omega, by go_num, by rw [HC2.out]; exact HCK.out, by rw [HF2.out]; exact HN.out⟩
            case measure => simp [intOf]; omega
          · have gd : (a / 1024 % 16 == 15) = false := by simpa using hd
            go_upto_region 22 with (fail)
            have HFL : Hid ((flightCells (dFlight a ck k)).toArray = #[.string (dNum k), .string (dCode (dFrom r)), .string (dCode (dTo r)), .int .i64 ck, .int .i64 (ck + 60 + 30 * (a / 64 % 2)), .string ⟨#[97, 51, 50, 48]⟩, .int .i64 1, .int .i64 1, .int .i64 0]) := by
              show _ = _
              unfold dFlight flightCells
              rw [HRR.out, if_pos ht, if_neg hd]
              rfl
            clear ht hd
            have z0 := block_cell HG.out 0; have z1 := block_cell HG.out 1; have z2 := block_cell HG.out 2; have z3 := block_cell HG.out 3; have z4 := block_cell HG.out 4; have z5 := block_cell HG.out 5; have z6 := block_cell HG.out 6; have z7 := block_cell HG.out 7; have z8 := block_cell HG.out 8
            have hd8 := HDT.out.next HW8.out
            have y2 := block_cell hd8.box 2
            have HD8 := Lib.hid hd8
            have hs8 := hd8.size
            clear hd8
            go_wp2_with (at_builtin; refine wpList_push (t := Ty.flight) rfl _ _ _ rfl 104 elem_flight rfl (HD8.out.own.alloc _) w8.heap.size (dFlight a ck k) (fun _ => False) rfl ⟨flightCells (dFlight a ck k), rfl, ?ca⟩ (fun _ h => h.elim) ?c1 (by decide) ?c2 ?_)
            case ca => exact at_ofBlock (by rw [HFL.out]; exact heap_alloc_new _ _)
            case c1 => rw [HLN.out]; omega
            case c2 => simp; omega
            intro v' w9 hown9 hgr9
            rw [← HSU.out.2] at hown9
            obtain ⟨A9, c9, rfl, -⟩ := hown9.sl
            generalize fs2.length = n9 at *
            have hd9 : DT w (w8.alloc (.cells #[.string (dNum k), .string (dCode (dFrom r)), .string (dCode (dTo r)), .int .i64 ck, .int .i64 (ck + 60 + 30 * (a / 64 % 2)), .string ⟨#[97, 51, 50, 48]⟩, .int .i64 1, .int .i64 1, .int .i64 0] 62)) v fs := HD8.out.next ((Below.refl _ _).alloc (Nat.le_refl _) _)
            have y2 := block_cell (hd9.box8 hgr9) 2
            have f2 := block_free (hd9.box8 hgr9) 2
            have HD9 := Lib.hid (hd9.push hgr9 hown9)
            clear hd9 hown9 hgr9 z0 z1 z2 z3 z4 z5 z6 z7 z8 HG HD8 HW8 HFL
            go_upto_region 23 with (fail)
            generalize w9.setCell ⟨w.heap.size + 3, 2, none⟩ (.slice A9 n9 c9) = w10 at *
            clear y2 f2
            have hgp := HGP.out w10
            have hq1 := HQA.out
            have hq2 := HQW.out
            have HN := Lib.hid (HD9.out.next ((Below.refl w10.heap.size w10).alloc (Nat.le_refl _) (.cells #[.int .i64 75, .int .i64 100, .int .i64 130, .int .i64 240, .int .i64 60, .int .i64 700, .int .i64 95, .int .i64 110] 3)))
            have hq8 : (q : Int) < 8 := by omega
            have hq0 : (0 : Int) ≤ (q : Int) := by omega
            go_wp2_with fail
            go_roundw
            case rel => exact ⟨k + 1, _, by omega, by go_num, by rw [HC2.out]; exact HCK.out, by rw [HF2.out]; exact HN.out⟩
            case measure => simp [intOf]; omega
        · have gt : (a / 128 % 8 == 7) = false := by simpa using ht
          go_upto_region 20 with (fail)
          have g16 : bits .and .i64 (a / 1024) 15 = a / 1024 % 16 := and_15 _
          by_cases hd : a / 1024 % 16 = 15
          · have y6 := block_cell HG.out 6; have y7 := block_cell HG.out 7; have y8 := block_cell HG.out 8
            have f6 := block_free HG.out 6; have f7 := block_free HG.out 7; have f8 := block_free HG.out 8
            go_upto_region 22 with (fail)
            have HG2 : Hid ((((w8.setCell ⟨g, 6, none⟩ (.int .i64 1)).setCell ⟨g, 7, none⟩ (.int .i64 0)).setCell ⟨g, 8, none⟩ (.int .i64 0)).heap[g]? = some (.cells #[.string (dNum k), .string (dCode (dFrom r)), .string (dCode (dTo r)), .int .i64 ck, .int .i64 (ck + 60 + 30 * (a / 64 % 2)), .string ⟨#[98, 55, 51, 55]⟩, .int .i64 1, .int .i64 0, .int .i64 0] 62 (0, 0))) := heap_setCell_same _ _ _ _ _ _ (heap_setCell_same _ _ _ _ _ _ (heap_setCell_same _ _ _ _ _ _ HG.out))
            have HW9 : Hid (Below wc.heap.size wc (((w8.setCell ⟨g, 6, none⟩ (.int .i64 1)).setCell ⟨g, 7, none⟩ (.int .i64 0)).setCell ⟨g, 8, none⟩ (.int .i64 0))) := ((HW8.out.setCell (show wc.heap.size ≤ g from hg) _).setCell (show wc.heap.size ≤ g from hg) _).setCell (show wc.heap.size ≤ g from hg) _
            clear HW8 HG y6 y7 y8 f6 f7 f8
            have HW8 := HW9
            have HG := HG2
            clear HW9 HG2
            generalize ((w8.setCell ⟨g, 6, none⟩ (.int .i64 1)).setCell ⟨g, 7, none⟩ (.int .i64 0)).setCell ⟨g, 8, none⟩ (.int .i64 0) = w8 at *
            have HFL : Hid ((flightCells (dFlight a ck k)).toArray = #[.string (dNum k), .string (dCode (dFrom r)), .string (dCode (dTo r)), .int .i64 ck, .int .i64 (ck + 60 + 30 * (a / 64 % 2)), .string ⟨#[98, 55, 51, 55]⟩, .int .i64 1, .int .i64 0, .int .i64 0]) := by
              show _ = _
              unfold dFlight flightCells
              rw [HRR.out, if_neg ht, if_pos hd]
              rfl
            clear ht hd
            have z0 := block_cell HG.out 0; have z1 := block_cell HG.out 1; have z2 := block_cell HG.out 2; have z3 := block_cell HG.out 3; have z4 := block_cell HG.out 4; have z5 := block_cell HG.out 5; have z6 := block_cell HG.out 6; have z7 := block_cell HG.out 7; have z8 := block_cell HG.out 8
            have hd8 := HDT.out.next HW8.out
            have y2 := block_cell hd8.box 2
            have HD8 := Lib.hid hd8
            have hs8 := hd8.size
            clear hd8
            go_wp2_with (at_builtin; refine wpList_push (t := Ty.flight) rfl _ _ _ rfl 104 elem_flight rfl (HD8.out.own.alloc _) w8.heap.size (dFlight a ck k) (fun _ => False) rfl ⟨flightCells (dFlight a ck k), rfl, ?ca⟩ (fun _ h => h.elim) ?c1 (by decide) ?c2 ?_)
            case ca => exact at_ofBlock (by rw [HFL.out]; exact heap_alloc_new _ _)
            case c1 => rw [HLN.out]; omega
            case c2 => simp; omega
            intro v' w9 hown9 hgr9
            rw [← HSU.out.2] at hown9
            obtain ⟨A9, c9, rfl, -⟩ := hown9.sl
            generalize fs2.length = n9 at *
            have hd9 : DT w (w8.alloc (.cells #[.string (dNum k), .string (dCode (dFrom r)), .string (dCode (dTo r)), .int .i64 ck, .int .i64 (ck + 60 + 30 * (a / 64 % 2)), .string ⟨#[98, 55, 51, 55]⟩, .int .i64 1, .int .i64 0, .int .i64 0] 62)) v fs := HD8.out.next ((Below.refl _ _).alloc (Nat.le_refl _) _)
            have y2 := block_cell (hd9.box8 hgr9) 2
            have f2 := block_free (hd9.box8 hgr9) 2
            have HD9 := Lib.hid (hd9.push hgr9 hown9)
            clear hd9 hown9 hgr9 z0 z1 z2 z3 z4 z5 z6 z7 z8 HG HD8 HW8 HFL
            go_upto_region 23 with (fail)
            generalize w9.setCell ⟨w.heap.size + 3, 2, none⟩ (.slice A9 n9 c9) = w10 at *
            clear y2 f2
            have hgp := HGP.out w10
            have hq1 := HQA.out
            have hq2 := HQW.out
            have HN := Lib.hid (HD9.out.next ((Below.refl w10.heap.size w10).alloc (Nat.le_refl _) (.cells #[.int .i64 75, .int .i64 100, .int .i64 130, .int .i64 240, .int .i64 60, .int .i64 700, .int .i64 95, .int .i64 110] 3)))
            have hq8 : (q : Int) < 8 := by omega
            have hq0 : (0 : Int) ≤ (q : Int) := by omega
            go_wp2_with fail
            go_roundw
            case rel => exact ⟨k + 1, _, by omega, by go_num, by rw [HC2.out]; exact HCK.out, by rw [HF2.out]; exact HN.out⟩
            case measure => simp [intOf]; omega
          · have gd : (a / 1024 % 16 == 15) = false := by simpa using hd
            go_upto_region 22 with (fail)
            have HFL : Hid ((flightCells (dFlight a ck k)).toArray = #[.string (dNum k), .string (dCode (dFrom r)), .string (dCode (dTo r)), .int .i64 ck, .int .i64 (ck + 60 + 30 * (a / 64 % 2)), .string ⟨#[98, 55, 51, 55]⟩, .int .i64 1, .int .i64 1, .int .i64 0]) := by
              show _ = _
              unfold dFlight flightCells
              rw [HRR.out, if_neg ht, if_neg hd]
              rfl
            clear ht hd
            have z0 := block_cell HG.out 0; have z1 := block_cell HG.out 1; have z2 := block_cell HG.out 2; have z3 := block_cell HG.out 3; have z4 := block_cell HG.out 4; have z5 := block_cell HG.out 5; have z6 := block_cell HG.out 6; have z7 := block_cell HG.out 7; have z8 := block_cell HG.out 8
            have hd8 := HDT.out.next HW8.out
            have y2 := block_cell hd8.box 2
            have HD8 := Lib.hid hd8
            have hs8 := hd8.size
            clear hd8
            go_wp2_with (at_builtin; refine wpList_push (t := Ty.flight) rfl _ _ _ rfl 104 elem_flight rfl (HD8.out.own.alloc _) w8.heap.size (dFlight a ck k) (fun _ => False) rfl ⟨flightCells (dFlight a ck k), rfl, ?ca⟩ (fun _ h => h.elim) ?c1 (by decide) ?c2 ?_)
            case ca => exact at_ofBlock (by rw [HFL.out]; exact heap_alloc_new _ _)
            case c1 => rw [HLN.out]; omega
            case c2 => simp; omega
            intro v' w9 hown9 hgr9
            rw [← HSU.out.2] at hown9
            obtain ⟨A9, c9, rfl, -⟩ := hown9.sl
            generalize fs2.length = n9 at *
            have hd9 : DT w (w8.alloc (.cells #[.string (dNum k), .string (dCode (dFrom r)), .string (dCode (dTo r)), .int .i64 ck, .int .i64 (ck + 60 + 30 * (a / 64 % 2)), .string ⟨#[98, 55, 51, 55]⟩, .int .i64 1, .int .i64 1, .int .i64 0] 62)) v fs := HD8.out.next ((Below.refl _ _).alloc (Nat.le_refl _) _)
            have y2 := block_cell (hd9.box8 hgr9) 2
            have f2 := block_free (hd9.box8 hgr9) 2
            have HD9 := Lib.hid (hd9.push hgr9 hown9)
            clear hd9 hown9 hgr9 z0 z1 z2 z3 z4 z5 z6 z7 z8 HG HD8 HW8 HFL
            go_upto_region 23 with (fail)
            generalize w9.setCell ⟨w.heap.size + 3, 2, none⟩ (.slice A9 n9 c9) = w10 at *
            clear y2 f2
            have hgp := HGP.out w10
            have hq1 := HQA.out
            have hq2 := HQW.out
            have HN := Lib.hid (HD9.out.next ((Below.refl w10.heap.size w10).alloc (Nat.le_refl _) (.cells #[.int .i64 75, .int .i64 100, .int .i64 130, .int .i64 240, .int .i64 60, .int .i64 700, .int .i64 95, .int .i64 110] 3)))
            have hq8 : (q : Int) < 8 := by omega
            have hq0 : (0 : Int) ≤ (q : Int) := by omega
            go_wp2_with fail
            go_roundw
            case rel => exact ⟨k + 1, _, by omega, by go_num, by rw [HC2.out]; exact HCK.out, by rw [HF2.out]; exact HN.out⟩
            case measure => simp [intOf]; omega
    · obtain rfl : k = m := by omega
      obtain ⟨A9, c9, rfl, hs9⟩ := hdt.own.sl
      have HS9 := Lib.hid hs9
      clear hs9
      generalize hl9 : (dSt l k).2.length = n9 at *
      have hb0 := (hdt.old (q := w.heap.size) (by omega) (by omega)).trans (dInit_at w 0 _ rfl)
      have y0 := block_cell hdt.box 0; have y1 := block_cell hdt.box 1; have y2 := block_cell hdt.box 2
      have z0 := block_cell hb0 0; have z1 := block_cell hb0 1; have z2 := block_cell hb0 2
      have f0 := block_free hb0 0; have f1 := block_free hb0 1; have f2 := block_free hb0 2
      have HD := Lib.hid hdt
      have HB0 := Lib.hid hb0
      clear hdt hb0
      have hsz := HD.out.size
      have hbel := HD.out.below
      have hend : ∃ V, (((wr.setCell ⟨w.heap.size, 0, none⟩ (.slice (some ⟨w.heap.size + 2, 0, none⟩) 2 2)).setCell ⟨w.heap.size, 1, none⟩ (.slice (some ⟨w.heap.size + 4, 0, none⟩) 3 3)).setCell ⟨w.heap.size, 2, none⟩ (.slice A9 n9 c9)) = V ∧ V.heap[w.heap.size]? = some (.cells #[.slice (some ⟨w.heap.size + 2, 0, none⟩) 2 2, .slice (some ⟨w.heap.size + 4, 0, none⟩) 3 3, .slice A9 n9 c9] 27 (0, 0)) ∧ Below w.heap.size w V ∧
          TTIs V (fun b => w.heap.size < b ∧ b < V.heap.size) [.slice (some ⟨w.heap.size + 2, 0, none⟩) 2 2, .slice (some ⟨w.heap.size + 4, 0, none⟩) 3 3, .slice A9 n9 c9] (dTT l k) := by
        refine ⟨_, rfl, heap_setCell_same _ _ _ _ _ _ (heap_setCell_same _ _ _ _ _ _ (heap_setCell_same _ _ _ _ _ _ HB0.out)), ((hbel.setCell (Nat.le_refl w.heap.size) _).setCell (Nat.le_refl w.heap.size) _).setCell (Nat.le_refl w.heap.size) _, ?_⟩
        have hk2 : ∀ q, q ≠ w.heap.size → (((wr.setCell ⟨w.heap.size, 0, none⟩ (.slice (some ⟨w.heap.size + 2, 0, none⟩) 2 2)).setCell ⟨w.heap.size, 1, none⟩ (.slice (some ⟨w.heap.size + 4, 0, none⟩) 3 3)).setCell ⟨w.heap.size, 2, none⟩ (.slice A9 n9 c9)).heap[q]? = wr.heap[q]? := fun q hq => by
          rw [heap_setCell_other _ _ _ _ hq, heap_setCell_other _ _ _ _ hq, heap_setCell_other _ _ _ _ hq]
        refine ⟨_, _, _, _, _, _, _, _, _, rfl, ?_, ?_, ?_⟩
        · refine ((dInit_zones w).keep fun b hb => (hk2 b (by omega)).trans (HD.out.old (by omega) (by omega))).more fun b hb => ?_
          show w.heap.size < b ∧ b < _
          simp; omega
        · refine ((dInit_airports w).keep fun b hb => (hk2 b (by omega)).trans (HD.out.old (by omega) (by omega))).more fun b hb => ?_
          show w.heap.size < b ∧ b < _
          simp; omega
        · refine (HS9.out.keep fun b hb => hk2 b (by omega)).more fun b hb => ?_
          show w.heap.size < b ∧ b < _
          simp; omega
      obtain ⟨V, hV, hVb, hVB, hVT⟩ := hend
      have HVb := Lib.hid hVb; have HVB := Lib.hid hVB; have HVT := Lib.hid hVT
      clear hVb hVB hVT hbel hsz HS
      go_wp2_with fail
      try rw [hV]
      have x0 := block_cell HVb.out 0; have x1 := block_cell HVb.out 1; have x2 := block_cell HVb.out 2
      refine bodyPost_ret (v := .agg #[.slice (some ⟨w.heap.size + 2, 0, none⟩) 2 2, .slice (some ⟨w.heap.size + 4, 0, none⟩) 3 3, .slice A9 n9 c9]) (by simp [results, Tryz.results33, go_sem, x0, x1, x2]) rfl ?_
      exact ⟨_, rfl, HVT.out, HVB.out⟩
end Go.Proofs.YtifconapjfdkcaaGreatDoor
/-
  The contracts of the laws' data: the reference's reader returns one for each of the six texts.
  No condition.
-/
namespace Go.Proofs.YtifconapjfdkcaaGreatDoor
set_option linter.unusedSimpArgs false
set_option linter.unusedVariables false
open Go.RowKit Go

theorem follows_ok : Tryz.prog.follows .mixedOrders = true := by kernel_rfl
theorem con_read0 (w : World) : Calls Tryz.prog 66 #[.string conS0] w (ConRead w) := con_read con0_eq con0_ok follows_ok w
theorem con_read1 (w : World) : Calls Tryz.prog 66 #[.string conS1] w (ConRead w) := con_read con1_eq con1_ok follows_ok w
theorem con_read2 (w : World) : Calls Tryz.prog 66 #[.string conS2] w (ConRead w) := con_read con2_eq con2_ok follows_ok w
theorem con_read3 (w : World) : Calls Tryz.prog 66 #[.string conS3] w (ConRead w) := con_read con3_eq con3_ok follows_ok w
theorem con_read4 (w : World) : Calls Tryz.prog 66 #[.string conS4] w (ConRead w) := con_read con4_eq con4_ok follows_ok w
theorem con_read5 (w : World) : Calls Tryz.prog 66 #[.string conS5] w (ConRead w) := con_read con5_eq con5_ok follows_ok w
end Go.Proofs.YtifconapjfdkcaaGreatDoor
