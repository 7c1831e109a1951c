/-
  Contracts: local time.
  Condition: the zone is one of the two of the laws' data.
-/
import Derived.Test.YthldmlfpebgojaaGreatDoorR11
namespace Go.Proofs.YthldmlfpebgojaaGreatDoor
set_option linter.unusedSimpArgs false
set_option linter.unusedVariables false
set_option maxHeartbeats 0
set_option maxRecDepth 100000
open Go.RowKit Go

section
variable {B : St} {z : ZV}
theorem offsetAt_ev (hz : ZOk B z) (t : Int) : EvP Tryz.prog 356 [z.v, .int .i64 t] B fun v _ => ∃ n e, v = .tuple #[.int .i64 n, .int .i64 e] ∧ 0 ≤ n ∧ n ≤ 120 := by
  refine EvP.go Tryz.func356 rfl Tryz.ntmps356 Tryz.results356 rfl [] rfl ?_
  (repeat' (first | refine J.seq ?_ | refine J.roA rfl ?_ | refine X.ro rfl rfl ?_ | refine X.nil0 ?_ | refine X.la 0 rfl rfl rfl rfl rfl rfl rfl rfl rfl rfl ?_ | refine X.bx rfl rfl rfl rfl rfl rfl rfl rfl fun b => ?_))
  refine X.callq rfl rfl (gV_ok rfl) rfl rfl rfl rfl (en rfl) (validateZone_ev hz) ?_
  rintro v rfl
  (repeat' (first | refine J.seq ?_ | refine J.roA rfl ?_ | refine X.ro rfl rfl ?_ | refine X.nil0 ?_ | refine J.skip ?_ | refine J.cond_f rfl ?_))
  refine X.callq rfl rfl (gV_ok rfl) rfl rfl rfl rfl (en rfl) (instant_ev t) ?_
  rintro v ⟨c, rfl⟩
  (repeat' (first | refine J.seq ?_ | refine J.roA rfl ?_ | refine X.ro rfl rfl ?_ | refine X.nil0 ?_ | refine J.skip ?_ | refine J.ret ?_ | refine X.la 0 rfl rfl rfl rfl rfl rfl rfl rfl rfl rfl ?_ | refine J.cond rfl (fun h => ?_) (fun h => ?_)))
  · exact ⟨_, .cons (.tmp rfl) (.cons (.tmp rfl) .nil), rfl, fun _ _ _ => ⟨_, _, rfl, by decide, by decide⟩⟩
  · refine X.callq rfl rfl (gV_ok rfl) rfl rfl rfl rfl (en rfl) (off_ev hz t) ?_
    rintro v ⟨n, rfl, h1, h2⟩
    (repeat' (first | refine X.ro rfl rfl ?_ | refine X.nil0 ?_ | refine J.ret ?_))
    exact ⟨_, .cons (.tmp rfl) (.cons (.tmp rfl) .nil), rfl, fun _ _ _ => ⟨_, _, rfl, h1, h2⟩⟩
theorem localMinute_ev (hz : ZOk B z) (t : Int) : EvP Tryz.prog 329 [z.v, .int .i64 t] B fun v _ => ∃ n e, v = .tuple #[.int .i64 n, .int .i64 e] ∧ inR n := by
  refine EvP.go Tryz.func329 rfl Tryz.ntmps329 Tryz.results329 rfl [] rfl ?_
  (repeat' (first | refine J.seq ?_ | refine J.roA rfl ?_ | refine X.ro rfl rfl ?_ | refine X.nil0 ?_ | refine X.la 0 rfl rfl rfl rfl rfl rfl rfl rfl rfl rfl ?_ | refine X.bx rfl rfl rfl rfl rfl rfl rfl rfl fun b => ?_))
  refine X.callq rfl rfl (gV_ok rfl) rfl rfl rfl rfl (en rfl) (offsetAt_ev hz t) ?_
  rintro v ⟨n, e, rfl, h1, h2⟩
  (repeat' (first | refine J.seq ?_ | refine J.roA rfl ?_ | refine X.ro rfl rfl ?_ | refine X.nil0 ?_ | refine J.skip ?_ | refine J.ret ?_ | refine J.cond_nd rfl (fun h => ?_) (fun h => ?_) | refine X.adw rfl rfl rfl rfl rfl rfl ?_))
  · exact ⟨_, .cons (.tmp rfl) (.cons (.tmp rfl) .nil), rfl, fun _ _ _ => ⟨_, _, rfl, inR.of (by decide)⟩⟩
  · exact ⟨_, .cons (.tmp rfl) (.cons (.tmp rfl) .nil), rfl, fun _ _ _ => ⟨_, _, rfl, inR.wrap _⟩⟩
theorem localTime_ev (hz : ZOk B z) (t : Int) : EvP Tryz.prog 299 [z.v, .int .i64 t] B fun v _ => ∃ a b e, v = .tuple #[.int .i64 a, .int .i64 b, .int .i64 e] ∧ inR a ∧ inR b := by
  refine EvP.go Tryz.func299 rfl Tryz.ntmps299 Tryz.results299 rfl [] rfl ?_
  (repeat' (first | refine J.seq ?_ | refine J.roA rfl ?_ | refine X.ro rfl rfl ?_ | refine X.nil0 ?_ | refine X.la 0 rfl rfl rfl rfl rfl rfl rfl rfl rfl rfl ?_ | refine X.bx rfl rfl rfl rfl rfl rfl rfl rfl fun b => ?_))
  refine X.callq rfl rfl (gV_ok rfl) rfl rfl rfl rfl (en rfl) (localMinute_ev hz t) ?_
  rintro v ⟨n, e, rfl, h1⟩
  (repeat' (first | refine J.seq ?_ | refine J.roA rfl ?_ | refine X.ro rfl rfl ?_ | refine X.nil0 ?_ | refine J.skip ?_ | refine J.ret ?_ | refine J.cond_nd rfl (fun h => ?_) (fun h => ?_)))
  · exact ⟨_, .cons (.tmp rfl) (.cons (.tmp rfl) (.cons (.tmp rfl) .nil)), rfl, fun _ _ _ => ⟨_, _, _, rfl, inR.of (by decide), inR.of (by decide)⟩⟩
  · refine X.callq rfl rfl (gV_ok rfl) rfl rfl rfl rfl (en rfl) (splitMinute_ev n) ?_
    rintro v ⟨a, b, rfl, h2, h3⟩
    (repeat' (first | refine J.seq ?_ | refine J.roA rfl ?_ | refine X.ro rfl rfl ?_ | refine X.nil0 ?_ | refine J.ret ?_))
    exact ⟨_, .cons (.tmp rfl) (.cons (.tmp rfl) (.cons (.tmp rfl) .nil)), rfl, fun _ _ _ => ⟨_, _, _, rfl, h2, h3⟩⟩
theorem clock_ev (hz : ZOk B z) (t : Int) : EvP Tryz.prog 285 [z.v, .int .i64 t] B fun v _ => isI v := by
  refine EvP.go Tryz.func285 rfl Tryz.ntmps285 Tryz.results285 rfl [] rfl ?_
  (repeat' (first | refine J.seq ?_ | refine J.roA rfl ?_ | refine X.ro rfl rfl ?_ | refine X.nil0 ?_ | refine X.la 0 rfl rfl rfl rfl rfl rfl rfl rfl rfl rfl ?_ | refine X.bx rfl rfl rfl rfl rfl rfl rfl rfl fun b => ?_))
  refine X.callq rfl rfl (gV_ok rfl) rfl rfl rfl rfl (en rfl) (localTime_ev hz t) ?_
  rintro v ⟨a, b, e, rfl, h1, h2⟩
  (repeat' (first | refine J.seq ?_ | refine J.roA rfl ?_ | refine X.ro rfl rfl ?_ | refine X.nil0 ?_ | refine J.ret ?_))
  exact ⟨_, .cons (.tmp rfl) .nil, rfl, fun _ _ _ => ⟨_, rfl, h2⟩⟩
theorem localDays_ev (hz : ZOk B z) (p q : Int) : EvP Tryz.prog 241 [z.v, .agg #[.int .i64 p, .int .i64 q]] B fun v _ => ∃ a b e, v = .tuple #[.int .i64 a, .int .i64 b, .int .i64 e] ∧ inR a ∧ inR b := by
  refine EvP.go Tryz.func241 rfl Tryz.ntmps241 Tryz.results241 rfl [] rfl ?_
  (repeat' (first | refine J.seq ?_ | refine J.roA rfl ?_ | refine X.ro rfl rfl ?_ | refine X.nil0 ?_ | refine X.la 0 rfl rfl rfl rfl rfl rfl rfl rfl rfl rfl ?_ | refine X.bx rfl rfl rfl rfl rfl rfl rfl rfl fun b => ?_))
  refine X.callq rfl rfl (gV_ok rfl) rfl rfl rfl rfl (en rfl) (validateZone_ev hz) ?_
  rintro v rfl
  (repeat' (first | refine J.seq ?_ | refine J.roA rfl ?_ | refine X.ro rfl rfl ?_ | refine X.nil0 ?_ | refine J.skip ?_ | refine J.cond_f rfl ?_ | refine X.la 1 rfl rfl rfl rfl rfl rfl rfl rfl rfl rfl ?_))
  refine X.callq rfl rfl (gV_ok rfl) rfl rfl rfl rfl (en rfl) (span5_ev p q) ?_
  rintro v ⟨c, rfl, hc⟩
  (repeat' (first | refine J.seq ?_ | refine J.roA rfl ?_ | refine X.ro rfl rfl ?_ | refine X.nil0 ?_ | refine J.skip ?_ | refine J.ret ?_ | refine X.l1 1 rfl rfl rfl rfl rfl rfl rfl rfl rfl ?_ | refine X.la 0 rfl rfl rfl rfl rfl rfl rfl rfl rfl rfl ?_ | refine J.cond_d rfl (fun h => ?_) (fun h => ?_) | refine J.cond rfl (fun h => ?_) (fun h => ?_)))
  · exact ⟨_, .cons (.tmp rfl) (.cons (.tmp rfl) (.cons (.tmp rfl) .nil)), rfl, fun _ _ _ => ⟨_, _, _, rfl, inR.of (by decide), inR.of (by decide)⟩⟩
  · exact ⟨_, .cons (.tmp rfl) (.cons (.tmp rfl) (.cons (.tmp rfl) .nil)), rfl, fun _ _ _ => ⟨_, _, _, rfl, inR.of (by decide), inR.of (by decide)⟩⟩
  · refine X.callq rfl rfl (gV_ok rfl) rfl rfl rfl rfl (en rfl) (localTime_ev hz p) ?_
    rintro v ⟨a1, b1, e1, rfl, h1, h2⟩
    (repeat' (first | refine J.seq ?_ | refine J.roA rfl ?_ | refine X.ro rfl rfl ?_ | refine X.nil0 ?_ | refine X.l1 1 rfl rfl rfl rfl rfl rfl rfl rfl rfl ?_ | refine X.la 0 rfl rfl rfl rfl rfl rfl rfl rfl rfl rfl ?_ | refine X.sbw rfl rfl rfl rfl rfl rfl ?_))
    refine X.callq rfl rfl (gV_ok rfl) rfl rfl rfl rfl (en rfl) (localTime_ev hz _) ?_
    rintro v ⟨a2, b2, e2, rfl, h3, h4⟩
    (repeat' (first | refine J.seq ?_ | refine J.roA rfl ?_ | refine X.ro rfl rfl ?_ | refine X.nil0 ?_ | refine J.ret ?_))
    exact ⟨_, .cons (.tmp rfl) (.cons (.tmp rfl) (.cons (.tmp rfl) .nil)), rfl, fun _ _ _ => ⟨_, _, _, rfl, h1, h3⟩⟩
theorem band_ev (hz : ZOk B z) (p q c d : Int) : EvP Tryz.prog 295 [z.v, .agg #[.int .i64 p, .int .i64 q], .int .i64 c, .int .i64 d] B fun v _ => ∃ e, v = .int .i64 e ∧ (e = 0 → 0 ≤ p ∧ p ≤ q ∧ q ≤ 52596000 ∧ 0 ≤ c ∧ c ≤ 1439 ∧ 0 ≤ d ∧ d ≤ 1439) := by
  refine EvP.go Tryz.func295 rfl Tryz.ntmps295 Tryz.results295 rfl [] rfl ?_
  (repeat' (first | refine J.seq ?_ | refine J.roA rfl ?_ | refine X.ro rfl rfl ?_ | refine X.nil0 ?_ | refine X.la 0 rfl rfl rfl rfl rfl rfl rfl rfl rfl rfl ?_ | refine X.bx rfl rfl rfl rfl rfl rfl rfl rfl fun b => ?_))
  refine X.callq rfl rfl (gV_ok rfl) rfl rfl rfl rfl (en rfl) (validateZone_ev hz) ?_
  rintro v rfl
  (repeat' (first | refine J.seq ?_ | refine J.roA rfl ?_ | refine X.ro rfl rfl ?_ | refine X.nil0 ?_ | refine J.skip ?_ | refine J.cond_f rfl ?_ | refine X.la 1 rfl rfl rfl rfl rfl rfl rfl rfl rfl rfl ?_))
  refine X.callq rfl rfl (gV_ok rfl) rfl rfl rfl rfl (en rfl) (span5_ev p q) ?_
  rintro v ⟨k, rfl, hk⟩
  (repeat' (first | refine J.seq ?_ | refine J.roA rfl ?_ | refine X.ro rfl rfl ?_ | refine X.nil0 ?_ | refine J.skip ?_ | refine J.ret ?_ | refine J.cond_t rfl ?_ | refine X.g_d rfl rfl rfl (fun h => ?_) (fun h => ?_) | ((fail_if_success refine X.kn rfl ?_); refine X.g_b rfl rfl rfl (fun h => ?_) (fun h => ?_)) | refine J.cond_d rfl (fun h => ?_) (fun h => ?_)))
  all_goals first | exact ⟨_, .cons (.tmp rfl) .nil, rfl, fun _ _ _ => ⟨_, rfl, fun h => absurd h (by decide)⟩⟩ | skip
  all_goals exact ⟨_, .cons (.tmp rfl) .nil, rfl, fun _ _ _ => ⟨_, rfl, fun _ => by
    have hkt : k = true := by
      cases k with
      | true => rfl
      | false => simp_all
    have := hk hkt
    omega⟩⟩
theorem bandMinutes_ev (hz : ZOk B z) (p q c d : Int) : EvP Tryz.prog 283 [z.v, .agg #[.int .i64 p, .int .i64 q], .int .i64 c, .int .i64 d] B fun v _ => ∃ n e, v = .tuple #[.int .i64 n, .int .i64 e] ∧ inR n := by
  refine EvP.go Tryz.func283 rfl Tryz.ntmps283 Tryz.results283 rfl [] rfl ?_
  (repeat' (first | refine J.seq ?_ | refine J.roA rfl ?_ | refine X.ro rfl rfl ?_ | refine X.nil0 ?_ | refine X.la 0 rfl rfl rfl rfl rfl rfl rfl rfl rfl rfl ?_ | refine X.la 1 rfl rfl rfl rfl rfl rfl rfl rfl rfl rfl ?_ | refine X.bx rfl rfl rfl rfl rfl rfl rfl rfl fun b => ?_))
  refine X.callq rfl rfl (gV_ok rfl) rfl rfl rfl rfl (en rfl) (band_ev hz p q c d) ?_
  rintro v ⟨e, rfl, he⟩
  (repeat' (first | refine J.seq ?_ | refine J.block ?_ | refine J.roA rfl ?_ | refine X.ro rfl rfl ?_ | refine X.nil0 ?_ | refine J.skip ?_ | refine J.ret ?_ | refine X.l1 1 rfl rfl rfl rfl rfl rfl rfl rfl rfl ?_ | refine J.cond_nd rfl (fun h => ?_) (fun h => ?_)))
  · exact ⟨_, .cons (.tmp rfl) (.cons (.tmp rfl) .nil), rfl, fun _ _ _ => ⟨_, _, rfl, inR.of (by decide)⟩⟩
  rename_i b1
  obtain ⟨h1, h2, h3, h4, h5, h6, h7⟩ := he (by omega)
  refine J.loop (σ := Nat × Int) (fun s => [(2, .int .i64 c), (3, .int .i64 d), (4, .pointer (some ⟨b1, 0, none⟩)), (5, .pointer (some ⟨b, 0, none⟩)), (11, .int .i64 s.2), (12, .int .i64 (p + (s.1 : Int)))]) (fun _ => [some (b1, ⟨[.string z.name, .int .i64 z.off, z.sh.v], 152, 1⟩), some (b, ⟨[.int .i64 p, .int .i64 q], 227, 1⟩)]) (fun B1 s => B1 = B ∧ p + (s.1 : Int) ≤ q ∧ inR s.2) (fun s => (q - p).toNat - s.1) (0, 0) ⟨rfl, by dsimp only; omega, inR.of (by decide)⟩ ⟨rfl, rfl, rfl, rfl, rfl, by rw [show p + ((0 : Nat) : Int) = p by omega]; rfl, trivial⟩ (fun _ _ _ h => h) fun s B1 hB hI => ?_
  obtain ⟨k, m⟩ := s
  obtain ⟨rfl, hk, hm⟩ := hI
  dsimp only at hk hm
  (repeat' (first | refine J.seq ?_ | refine J.block ?_ | refine J.roA rfl ?_ | refine X.ro rfl rfl ?_ | refine X.nil0 ?_ | refine J.skip ?_ | refine J.exit ?_ | refine J.ret ?_ | refine X.l1 1 rfl rfl rfl rfl rfl rfl rfl rfl rfl ?_ | refine X.la 0 rfl rfl rfl rfl rfl rfl rfl rfl rfl rfl ?_ | refine J.cond_d rfl (fun h => ?_) (fun h => ?_)))
  · refine X.callq rfl rfl (gV_ok rfl) rfl rfl rfl rfl (en rfl) (off_ev hz _) ?_
    rintro v ⟨o, rfl, ho1, ho2⟩
    (repeat' (first | refine X.ad rfl rfl rfl rfl rfl rfl (by omega) ?_))
    refine X.callq rfl rfl (gV_ok rfl) rfl rfl rfl rfl (en rfl) (splitMinute_ev _) ?_
    rintro v ⟨x, y, rfl, hx, hy⟩
    (repeat' (first | refine J.seq ?_ | refine J.roA rfl ?_ | refine X.ro rfl rfl ?_ | refine X.nil0 ?_))
    refine X.callq rfl rfl (gV_ok rfl) rfl rfl rfl rfl (en rfl) (inBand5_ev _ _ _) ?_
    rintro v ⟨w, rfl⟩
    (repeat' (first | refine J.roA rfl ?_ | refine X.ro rfl rfl ?_ | refine X.nil0 ?_ | refine J.skip ?_ | refine X.ad rfl rfl rfl rfl rfl rfl (by omega) ?_ | refine J.cond rfl (fun h => ?_) (fun h => ?_) | refine X.adw rfl rfl rfl rfl rfl rfl ?_))
    · exact ⟨(k + 1, _), ⟨rfl, rfl, rfl, rfl, rfl, by rw [show p + ((k + 1 : Nat) : Int) = p + (k : Int) + 1 by omega]; rfl, trivial⟩, (fun _ _ _ h => h), ⟨rfl, by dsimp only; omega, inR.wrap _⟩, by dsimp only; omega⟩
    · exact ⟨(k + 1, m), ⟨rfl, rfl, rfl, rfl, rfl, by rw [show p + ((k + 1 : Nat) : Int) = p + (k : Int) + 1 by omega]; rfl, trivial⟩, (fun _ _ _ h => h), ⟨rfl, by dsimp only; omega, hm⟩, by dsimp only; omega⟩
  · exact ⟨_, .cons (.tmp rfl) (.cons (.tmp rfl) .nil), rfl, fun _ _ _ => ⟨_, _, rfl, hm⟩⟩
theorem nights_ev (hz : ZOk B z) (p q c d : Int) : EvP Tryz.prog 238 [z.v, .agg #[.int .i64 p, .int .i64 q], .int .i64 c, .int .i64 d] B fun v _ => ∃ n e, v = .tuple #[.int .i64 n, .int .i64 e] ∧ inR n := by
  refine EvP.go Tryz.func238 rfl Tryz.ntmps238 Tryz.results238 rfl [] rfl ?_
  (repeat' (first | refine J.seq ?_ | refine J.roA rfl ?_ | refine X.ro rfl rfl ?_ | refine X.nil0 ?_ | refine X.la 0 rfl rfl rfl rfl rfl rfl rfl rfl rfl rfl ?_ | refine X.la 1 rfl rfl rfl rfl rfl rfl rfl rfl rfl rfl ?_ | refine X.bx rfl rfl rfl rfl rfl rfl rfl rfl fun b => ?_))
  refine X.callq rfl rfl (gV_ok rfl) rfl rfl rfl rfl (en rfl) (band_ev hz p q c d) ?_
  rintro v ⟨e, rfl, he⟩
  (repeat' (first | refine J.seq ?_ | refine J.roA rfl ?_ | refine X.ro rfl rfl ?_ | refine X.nil0 ?_ | refine J.skip ?_ | refine J.ret ?_ | refine X.ad rfl rfl rfl rfl rfl rfl (by omega) ?_ | refine X.sb rfl rfl rfl rfl rfl rfl (by omega) ?_ | refine J.cond_nd rfl (fun h => ?_) (fun h => ?_)))
  · exact ⟨_, .cons (.tmp rfl) (.cons (.tmp rfl) .nil), rfl, fun _ _ _ => ⟨_, _, rfl, inR.of (by decide)⟩⟩
  rename_i b1
  obtain ⟨h1, h2, h3, h4, h5, h6, h7⟩ := he (by omega)
  (repeat' (first | refine J.seq ?_ | refine J.block ?_ | refine J.roA rfl ?_ | refine X.ro rfl rfl ?_ | refine X.nil0 ?_ | refine X.l1 1 rfl rfl rfl rfl rfl rfl rfl rfl rfl ?_ | refine X.rew rfl rfl rfl rfl rfl rfl (by omega) ?_))
  generalize Int.tmod _ _ = sz
  refine J.loop (σ := Nat × Int × Int) (fun s => [(2, .int .i64 c), (3, .int .i64 d), (4, .pointer (some ⟨b1, 0, none⟩)), (5, .pointer (some ⟨b, 0, none⟩)), (11, .int .i64 sz), (12, .int .i64 s.2.1), (13, .int .i64 s.2.2), (14, .int .i64 (p + (s.1 : Int)))]) (fun _ => [some (b1, ⟨[.string z.name, .int .i64 z.off, z.sh.v], 152, 1⟩), some (b, ⟨[.int .i64 p, .int .i64 q], 227, 1⟩)]) (fun B1 s => B1 = B ∧ p + (s.1 : Int) ≤ q + 1 ∧ inR s.2.1) (fun s => (q + 1 - p).toNat - s.1) (0, 0, 0) ⟨rfl, by dsimp only; omega, inR.of (by decide)⟩ ⟨rfl, rfl, rfl, rfl, rfl, rfl, rfl, by rw [show p + ((0 : Nat) : Int) = p by omega]; rfl, trivial⟩ (fun _ _ _ h => h) fun s B1 hB hI => ?_
  obtain ⟨k, m, r⟩ := s
  obtain ⟨rfl, hk, hm⟩ := hI
  dsimp only at hk hm ⊢
  (repeat' (first | refine J.seq ?_ | refine J.block ?_ | refine J.roA rfl ?_ | refine X.ro rfl rfl ?_ | refine X.nil0 ?_ | refine J.skip ?_ | refine J.exit ?_ | refine J.ret ?_ | refine J.cond_f rfl ?_ | refine X.l1 1 rfl rfl rfl rfl rfl rfl rfl rfl rfl ?_ | refine X.la 0 rfl rfl rfl rfl rfl rfl rfl rfl rfl rfl ?_ | refine X.ad rfl rfl rfl rfl rfl rfl (by omega) ?_ | refine X.g_d rfl rfl rfl (fun h => ?_) (fun h => ?_) | refine J.cond_d rfl (fun h => ?_) (fun h => ?_) | refine X.adw rfl rfl rfl rfl rfl rfl ?_))
  · refine X.callq rfl rfl (gV_ok rfl) rfl rfl rfl rfl (en rfl) (off_ev hz _) ?_
    rintro v ⟨o, rfl, ho1, ho2⟩
    (repeat' (first | refine X.ad rfl rfl rfl rfl rfl rfl (by omega) ?_))
    refine X.callq rfl rfl (gV_ok rfl) rfl rfl rfl rfl (en rfl) (splitMinute_ev _) ?_
    rintro v ⟨x, y, rfl, hx, hy⟩
    (repeat' (first | refine J.roA rfl ?_ | refine X.ro rfl rfl ?_ | refine X.nil0 ?_))
    refine X.callq rfl rfl (gV_ok rfl) rfl rfl rfl rfl (en rfl) (inBand5_ev _ _ _) ?_
    rintro v ⟨w, rfl⟩
    (repeat' (first | refine J.seq ?_ | refine J.roA rfl ?_ | refine X.ro rfl rfl ?_ | refine X.nil0 ?_ | refine J.skip ?_ | refine J.exit ?_ | refine J.cond_f rfl ?_ | refine X.ad rfl rfl rfl rfl rfl rfl (by omega) ?_ | refine X.g_d rfl rfl rfl (fun h => ?_) (fun h => ?_) | refine J.cond_d rfl (fun h => ?_) (fun h => ?_) | refine J.cond rfl (fun h => ?_) (fun h => ?_) | refine X.adw rfl rfl rfl rfl rfl rfl ?_))
    all_goals exact ⟨(k + 1, _, _), ⟨rfl, rfl, rfl, rfl, rfl, rfl, rfl, by rw [show p + ((k + 1 : Nat) : Int) = p + (k : Int) + 1 by omega]; rfl, trivial⟩, (fun _ _ _ h => h), ⟨rfl, by dsimp only; omega, by first | exact hm | exact inR.wrap _⟩, by dsimp only; omega⟩
  all_goals first | exact ⟨_, .cons (.tmp rfl) (.cons (.tmp rfl) .nil), rfl, fun _ _ _ => ⟨_, _, rfl, by first | exact hm | exact inR.of (by decide)⟩⟩ | skip
  all_goals exact ⟨(k + 1, _, _), ⟨rfl, rfl, rfl, rfl, rfl, rfl, rfl, by rw [show p + ((k + 1 : Nat) : Int) = p + (k : Int) + 1 by omega]; rfl, trivial⟩, (fun _ _ _ h => h), ⟨rfl, by dsimp only; omega, by first | exact hm | exact inR.wrap _⟩, by dsimp only; omega⟩
end
end Go.Proofs.YthldmlfpebgojaaGreatDoor
