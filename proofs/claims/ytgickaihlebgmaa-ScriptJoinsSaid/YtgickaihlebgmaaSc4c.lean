/-
  Chapter 23: the functions' trees. By program; each equation is checked by the kernel.
  It speaks of the pinned program alone; no condition.
-/
import Derived.Test.YtgickaihlebgmaaSc3
namespace Go.Proofs.Ytgickaihlebgmaa.V
open Go
set_option linter.unusedVariables false

theorem tRwrite (A : Ar) (l : List Cm) (nl : Option Bool) : bodyX (Cx A (Osc3 A) (Lrw A)) 100 Try.f11 [cms l nl false] [] =
    (bif
        A.se
          (List.all l wfB &&
            (decide
                ((0 : Int) ≤ (0 : Int) ∧
                  (0 : Int) ≤ (↑(List.length l) : Int) ∧
                    (0 : Nat) + List.length (encs (List.drop (Int.toNat (0 : Int)) l)) ≤ (10000000 : Nat) ∧
                      List.length l ≤ (10000000 : Nat)) &&
              nlB true [])) then
      bif A.se (List.all (List.drop (Int.toNat (0 : Int)) l) checkC) then
        some
          (X.tup
              [X.sl (Ty.int IntKind.u8) (A.se ([] ++ encs (List.drop (Int.toNat (0 : Int)) l)))
                  (some (A.se (true && List.isEmpty (List.drop (Int.toNat (0 : Int)) l)))) false,
                X.d (Ty.int IntKind.i64) (0 : Int)],
            [])
      else some (X.tup [X.sl (Ty.int IntKind.u8) [] (some true) false, X.d (Ty.int IntKind.i64) (230 : Int)], [])
    else none) := by kernel_rfl
theorem lRwrite (A : Ar) (R : Type) (l : List Cm) (nl : Option Bool) (z i : Int) (b : List Int) (nb : Bool) (k : Ex → List X → Hp → Option R) : stepF (Cx A (Osc3 A) (Lrw A)) 100 (loopAt Try.f11 0) 57 [0, 2, 3, 4, 5] [cms l nl false, u8s [] (some true) true, i64x z, u8s b (some nb) true, i64x i] [] k =
    (bif decide (i < (↑(List.length l) : Int)) then
      bif decide ((0 : Int) ≤ i ∧ i < (↑(List.length l) : Int)) then
        bif !A.se (checkC (List.getD l (Int.toNat i) (Ty.zero cmdT))) then
          k Ex.ret
            [X.sl cmdT l nl false, X.sl (Ty.int IntKind.u8) [] (some true) true, X.d (Ty.int IntKind.i64) (230 : Int),
              X.sl (Ty.int IntKind.u8) b (some nb) true, X.d (Ty.int IntKind.i64) i]
            [(Ty.struct
                  (Ty.prod (Ty.int IntKind.i64)
                    (Ty.prod (Ty.slice (Ty.int IntKind.u8))
                      (Ty.prod (Ty.slice (Ty.int IntKind.u8))
                        (Ty.prod (Ty.int IntKind.i64)
                          (Ty.prod (Ty.int IntKind.u64) (Ty.prod (Ty.int IntKind.i64) Ty.unit)))))),
                X.d
                  (Ty.struct
                    (Ty.prod (Ty.int IntKind.i64)
                      (Ty.prod (Ty.slice (Ty.int IntKind.u8))
                        (Ty.prod (Ty.slice (Ty.int IntKind.u8))
                          (Ty.prod (Ty.int IntKind.i64)
                            (Ty.prod (Ty.int IntKind.u64) (Ty.prod (Ty.int IntKind.i64) Ty.unit)))))))
                  (Option.rec ((fun _ => Ty.zero cmdT) ()) (fun val => (fun val => (fun x => x) val) val) l[Int.toNat i]?))]
        else
          bif
              decide
                ((List.length b + List.length [A.wrap IntKind.u8 (List.getD l (Int.toNat i) (Ty.zero cmdT)).fst]) *
                    (1 : Nat) ≤
                  (140737488355328 : Nat)) then
            bif (List.getD l (Int.toNat i) (Ty.zero cmdT)).fst != (3 : Int) then
              bif
                  A.se
                    (decide
                        (List.length (b ++ [A.wrap IntKind.u8 (List.getD l (Int.toNat i) (Ty.zero cmdT)).fst]) ≤
                            (20000000 : Nat) ∧
                          List.length (List.getD l (Int.toNat i) (Ty.zero cmdT)).snd.fst ≤ (20000000 : Nat)) &&
                      nlB (nb && List.isEmpty [A.wrap IntKind.u8 (List.getD l (Int.toNat i) (Ty.zero cmdT)).fst])
                        (b ++ [A.wrap IntKind.u8 (List.getD l (Int.toNat i) (Ty.zero cmdT)).fst])) then
                bif (List.getD l (Int.toNat i) (Ty.zero cmdT)).fst == (1 : Int) then
                  bif
                      A.se
                        (decide
                            (List.length
                                  (A.se
                                    (b ++ [A.wrap IntKind.u8 (List.getD l (Int.toNat i) (Ty.zero cmdT)).fst] ++
                                      txt (List.getD l (Int.toNat i) (Ty.zero cmdT)).snd.fst)) ≤
                                (20000000 : Nat) ∧
                              List.length (List.getD l (Int.toNat i) (Ty.zero cmdT)).snd.snd.fst ≤ (20000000 : Nat)) &&
                          nlB false
                            (A.se
                              (b ++ [A.wrap IntKind.u8 (List.getD l (Int.toNat i) (Ty.zero cmdT)).fst] ++
                                txt (List.getD l (Int.toNat i) (Ty.zero cmdT)).snd.fst))) then
                    bif (List.getD l (Int.toNat i) (Ty.zero cmdT)).fst == (5 : Int) then
                      bif
                          A.se
                            (isU64 (A.wrap IntKind.u64 (List.getD l (Int.toNat i) (Ty.zero cmdT)).snd.snd.snd.fst) &&
                              (decide
                                  (List.length
                                      (A.se
                                        (A.se
                                            (b ++ [A.wrap IntKind.u8 (List.getD l (Int.toNat i) (Ty.zero cmdT)).fst] ++
                                              txt (List.getD l (Int.toNat i) (Ty.zero cmdT)).snd.fst) ++
                                          txt (List.getD l (Int.toNat i) (Ty.zero cmdT)).snd.snd.fst)) ≤
                                    (100000000 : Nat)) &&
                                nlO (some false)
                                  (A.se
                                    (A.se
                                        (b ++ [A.wrap IntKind.u8 (List.getD l (Int.toNat i) (Ty.zero cmdT)).fst] ++
                                          txt (List.getD l (Int.toNat i) (Ty.zero cmdT)).snd.fst) ++
                                      txt (List.getD l (Int.toNat i) (Ty.zero cmdT)).snd.snd.fst)))) then
                        bif
                            A.se
                              (isU64 (List.getD l (Int.toNat i) (Ty.zero cmdT)).snd.snd.snd.snd.fst &&
                                (decide
                                    (List.length
                                        (A.se
                                          (A.se
                                              (A.se
                                                  (b ++
                                                      [A.wrap IntKind.u8 (List.getD l (Int.toNat i) (Ty.zero cmdT)).fst] ++
                                                    txt (List.getD l (Int.toNat i) (Ty.zero cmdT)).snd.fst) ++
                                                txt (List.getD l (Int.toNat i) (Ty.zero cmdT)).snd.snd.fst) ++
                                            vb
                                              (Int.toNat
                                                (A.wrap IntKind.u64
                                                  (List.getD l (Int.toNat i) (Ty.zero cmdT)).snd.snd.snd.fst)))) ≤
                                      (100000000 : Nat)) &&
                                  nlO (some false)
                                    (A.se
                                      (A.se
                                          (A.se
                                              (b ++ [A.wrap IntKind.u8 (List.getD l (Int.toNat i) (Ty.zero cmdT)).fst] ++
                                                txt (List.getD l (Int.toNat i) (Ty.zero cmdT)).snd.fst) ++
                                            txt (List.getD l (Int.toNat i) (Ty.zero cmdT)).snd.snd.fst) ++
                                        vb
                                          (Int.toNat
                                            (A.wrap IntKind.u64
                                              (List.getD l (Int.toNat i) (Ty.zero cmdT)).snd.snd.snd.fst)))))) then
                          bif
                              A.se
                                (isU64
                                    (A.wrap IntKind.u64
                                      (List.getD l (Int.toNat i) (Ty.zero cmdT)).snd.snd.snd.snd.snd.fst) &&
                                  (decide
                                      (List.length
                                          (A.se
                                            (A.se
                                                (A.se
                                                    (A.se
                                                        (b ++
                                                            [A.wrap IntKind.u8
                                                                (List.getD l (Int.toNat i) (Ty.zero cmdT)).fst] ++
                                                          txt (List.getD l (Int.toNat i) (Ty.zero cmdT)).snd.fst) ++
                                                      txt (List.getD l (Int.toNat i) (Ty.zero cmdT)).snd.snd.fst) ++
                                                  vb
                                                    (Int.toNat
                                                      (A.wrap IntKind.u64
                                                        (List.getD l (Int.toNat i) (Ty.zero cmdT)).snd.snd.snd.fst))) ++
                                              vb
                                                (Int.toNat
                                                  (List.getD l (Int.toNat i) (Ty.zero cmdT)).snd.snd.snd.snd.fst))) ≤
                                        (100000000 : Nat)) &&
                                    nlO (some false)
                                      (A.se
                                        (A.se
                                            (A.se
                                                (A.se
                                                    (b ++
                                                        [A.wrap IntKind.u8
                                                            (List.getD l (Int.toNat i) (Ty.zero cmdT)).fst] ++
                                                      txt (List.getD l (Int.toNat i) (Ty.zero cmdT)).snd.fst) ++
                                                  txt (List.getD l (Int.toNat i) (Ty.zero cmdT)).snd.snd.fst) ++
                                              vb
                                                (Int.toNat
                                                  (A.wrap IntKind.u64
                                                    (List.getD l (Int.toNat i) (Ty.zero cmdT)).snd.snd.snd.fst))) ++
                                          vb
                                            (Int.toNat
                                              (List.getD l (Int.toNat i) (Ty.zero cmdT)).snd.snd.snd.snd.fst))))) then
                            k Ex.normal
                              [X.sl cmdT l nl false, X.sl (Ty.int IntKind.u8) [] (some true) true,
                                X.d (Ty.int IntKind.i64) z,
                                X.sl (Ty.int IntKind.u8)
                                  (A.se
                                    (A.se
                                        (A.se
                                            (A.se
                                                (A.se
                                                    (b ++
                                                        [A.wrap IntKind.u8
                                                            (List.getD l (Int.toNat i) (Ty.zero cmdT)).fst] ++
                                                      txt (List.getD l (Int.toNat i) (Ty.zero cmdT)).snd.fst) ++
                                                  txt (List.getD l (Int.toNat i) (Ty.zero cmdT)).snd.snd.fst) ++
                                              vb
                                                (Int.toNat
                                                  (A.wrap IntKind.u64
                                                    (List.getD l (Int.toNat i) (Ty.zero cmdT)).snd.snd.snd.fst))) ++
                                          vb (Int.toNat (List.getD l (Int.toNat i) (Ty.zero cmdT)).snd.snd.snd.snd.fst)) ++
                                      vb
                                        (Int.toNat
                                          (A.wrap IntKind.u64
                                            (List.getD l (Int.toNat i) (Ty.zero cmdT)).snd.snd.snd.snd.snd.fst))))
                                  (some false) true,
                                X.d (Ty.int IntKind.i64) (A.wrap IntKind.i64 (i + (1 : Int)))]
                              [(Ty.struct
                                    (Ty.prod (Ty.int IntKind.i64)
                                      (Ty.prod (Ty.slice (Ty.int IntKind.u8))
                                        (Ty.prod (Ty.slice (Ty.int IntKind.u8))
                                          (Ty.prod (Ty.int IntKind.i64)
                                            (Ty.prod (Ty.int IntKind.u64) (Ty.prod (Ty.int IntKind.i64) Ty.unit)))))),
                                  X.d
                                    (Ty.struct
                                      (Ty.prod (Ty.int IntKind.i64)
                                        (Ty.prod (Ty.slice (Ty.int IntKind.u8))
                                          (Ty.prod (Ty.slice (Ty.int IntKind.u8))
                                            (Ty.prod (Ty.int IntKind.i64)
                                              (Ty.prod (Ty.int IntKind.u64) (Ty.prod (Ty.int IntKind.i64) Ty.unit)))))))
                                    (Option.rec ((fun _ => Ty.zero cmdT) ()) (fun val => (fun val => (fun x => x) val) val)
                                      l[Int.toNat i]?))]
                          else none
                        else none
                      else none
                    else
                      k Ex.normal
                        [X.sl cmdT l nl false, X.sl (Ty.int IntKind.u8) [] (some true) true, X.d (Ty.int IntKind.i64) z,
                          X.sl (Ty.int IntKind.u8)
                            (A.se
                              (A.se
                                  (b ++ [A.wrap IntKind.u8 (List.getD l (Int.toNat i) (Ty.zero cmdT)).fst] ++
                                    txt (List.getD l (Int.toNat i) (Ty.zero cmdT)).snd.fst) ++
                                txt (List.getD l (Int.toNat i) (Ty.zero cmdT)).snd.snd.fst))
                            (some false) true,
                          X.d (Ty.int IntKind.i64) (A.wrap IntKind.i64 (i + (1 : Int)))]
                        [(Ty.struct
                              (Ty.prod (Ty.int IntKind.i64)
                                (Ty.prod (Ty.slice (Ty.int IntKind.u8))
                                  (Ty.prod (Ty.slice (Ty.int IntKind.u8))
                                    (Ty.prod (Ty.int IntKind.i64)
                                      (Ty.prod (Ty.int IntKind.u64) (Ty.prod (Ty.int IntKind.i64) Ty.unit)))))),
                            X.d
                              (Ty.struct
                                (Ty.prod (Ty.int IntKind.i64)
                                  (Ty.prod (Ty.slice (Ty.int IntKind.u8))
                                    (Ty.prod (Ty.slice (Ty.int IntKind.u8))
                                      (Ty.prod (Ty.int IntKind.i64)
                                        (Ty.prod (Ty.int IntKind.u64) (Ty.prod (Ty.int IntKind.i64) Ty.unit)))))))
                              (Option.rec ((fun _ => Ty.zero cmdT) ()) (fun val => (fun val => (fun x => x) val) val)
                                l[Int.toNat i]?))]
                  else none
                else
                  bif (List.getD l (Int.toNat i) (Ty.zero cmdT)).fst == (5 : Int) then
                    bif
                        A.se
                          (isU64 (A.wrap IntKind.u64 (List.getD l (Int.toNat i) (Ty.zero cmdT)).snd.snd.snd.fst) &&
                            (decide
                                (List.length
                                    (A.se
                                      (b ++ [A.wrap IntKind.u8 (List.getD l (Int.toNat i) (Ty.zero cmdT)).fst] ++
                                        txt (List.getD l (Int.toNat i) (Ty.zero cmdT)).snd.fst)) ≤
                                  (100000000 : Nat)) &&
                              nlO (some false)
                                (A.se
                                  (b ++ [A.wrap IntKind.u8 (List.getD l (Int.toNat i) (Ty.zero cmdT)).fst] ++
                                    txt (List.getD l (Int.toNat i) (Ty.zero cmdT)).snd.fst)))) then
                      bif
                          A.se
                            (isU64 (List.getD l (Int.toNat i) (Ty.zero cmdT)).snd.snd.snd.snd.fst &&
                              (decide
                                  (List.length
                                      (A.se
                                        (A.se
                                            (b ++ [A.wrap IntKind.u8 (List.getD l (Int.toNat i) (Ty.zero cmdT)).fst] ++
                                              txt (List.getD l (Int.toNat i) (Ty.zero cmdT)).snd.fst) ++
                                          vb
                                            (Int.toNat
                                              (A.wrap IntKind.u64
                                                (List.getD l (Int.toNat i) (Ty.zero cmdT)).snd.snd.snd.fst)))) ≤
                                    (100000000 : Nat)) &&
                                nlO (some false)
                                  (A.se
                                    (A.se
                                        (b ++ [A.wrap IntKind.u8 (List.getD l (Int.toNat i) (Ty.zero cmdT)).fst] ++
                                          txt (List.getD l (Int.toNat i) (Ty.zero cmdT)).snd.fst) ++
                                      vb
                                        (Int.toNat
                                          (A.wrap IntKind.u64
                                            (List.getD l (Int.toNat i) (Ty.zero cmdT)).snd.snd.snd.fst)))))) then
                        bif
                            A.se
                              (isU64
                                  (A.wrap IntKind.u64 (List.getD l (Int.toNat i) (Ty.zero cmdT)).snd.snd.snd.snd.snd.fst) &&
                                (decide
                                    (List.length
                                        (A.se
                                          (A.se
                                              (A.se
                                                  (b ++
                                                      [A.wrap IntKind.u8 (List.getD l (Int.toNat i) (Ty.zero cmdT)).fst] ++
                                                    txt (List.getD l (Int.toNat i) (Ty.zero cmdT)).snd.fst) ++
                                                vb
                                                  (Int.toNat
                                                    (A.wrap IntKind.u64
                                                      (List.getD l (Int.toNat i) (Ty.zero cmdT)).snd.snd.snd.fst))) ++
                                            vb
                                              (Int.toNat (List.getD l (Int.toNat i) (Ty.zero cmdT)).snd.snd.snd.snd.fst))) ≤
                                      (100000000 : Nat)) &&
                                  nlO (some false)
                                    (A.se
                                      (A.se
                                          (A.se
                                              (b ++ [A.wrap IntKind.u8 (List.getD l (Int.toNat i) (Ty.zero cmdT)).fst] ++
                                                txt (List.getD l (Int.toNat i) (Ty.zero cmdT)).snd.fst) ++
                                            vb
                                              (Int.toNat
                                                (A.wrap IntKind.u64
                                                  (List.getD l (Int.toNat i) (Ty.zero cmdT)).snd.snd.snd.fst))) ++
                                        vb
                                          (Int.toNat
                                            (List.getD l (Int.toNat i) (Ty.zero cmdT)).snd.snd.snd.snd.fst))))) then
                          k Ex.normal
                            [X.sl cmdT l nl false, X.sl (Ty.int IntKind.u8) [] (some true) true, X.d (Ty.int IntKind.i64) z,
                              X.sl (Ty.int IntKind.u8)
                                (A.se
                                  (A.se
                                      (A.se
                                          (A.se
                                              (b ++ [A.wrap IntKind.u8 (List.getD l (Int.toNat i) (Ty.zero cmdT)).fst] ++
                                                txt (List.getD l (Int.toNat i) (Ty.zero cmdT)).snd.fst) ++
                                            vb
                                              (Int.toNat
                                                (A.wrap IntKind.u64
                                                  (List.getD l (Int.toNat i) (Ty.zero cmdT)).snd.snd.snd.fst))) ++
                                        vb (Int.toNat (List.getD l (Int.toNat i) (Ty.zero cmdT)).snd.snd.snd.snd.fst)) ++
                                    vb
                                      (Int.toNat
                                        (A.wrap IntKind.u64
                                          (List.getD l (Int.toNat i) (Ty.zero cmdT)).snd.snd.snd.snd.snd.fst))))
                                (some false) true,
                              X.d (Ty.int IntKind.i64) (A.wrap IntKind.i64 (i + (1 : Int)))]
                            [(Ty.struct
                                  (Ty.prod (Ty.int IntKind.i64)
                                    (Ty.prod (Ty.slice (Ty.int IntKind.u8))
                                      (Ty.prod (Ty.slice (Ty.int IntKind.u8))
                                        (Ty.prod (Ty.int IntKind.i64)
                                          (Ty.prod (Ty.int IntKind.u64) (Ty.prod (Ty.int IntKind.i64) Ty.unit)))))),
                                X.d
                                  (Ty.struct
                                    (Ty.prod (Ty.int IntKind.i64)
                                      (Ty.prod (Ty.slice (Ty.int IntKind.u8))
                                        (Ty.prod (Ty.slice (Ty.int IntKind.u8))
                                          (Ty.prod (Ty.int IntKind.i64)
                                            (Ty.prod (Ty.int IntKind.u64) (Ty.prod (Ty.int IntKind.i64) Ty.unit)))))))
                                  (Option.rec ((fun _ => Ty.zero cmdT) ()) (fun val => (fun val => (fun x => x) val) val)
                                    l[Int.toNat i]?))]
                        else none
                      else none
                    else none
                  else
                    k Ex.normal
                      [X.sl cmdT l nl false, X.sl (Ty.int IntKind.u8) [] (some true) true, X.d (Ty.int IntKind.i64) z,
                        X.sl (Ty.int IntKind.u8)
                          (A.se
                            (b ++ [A.wrap IntKind.u8 (List.getD l (Int.toNat i) (Ty.zero cmdT)).fst] ++
                              txt (List.getD l (Int.toNat i) (Ty.zero cmdT)).snd.fst))
                          (some false) true,
                        X.d (Ty.int IntKind.i64) (A.wrap IntKind.i64 (i + (1 : Int)))]
                      [(Ty.struct
                            (Ty.prod (Ty.int IntKind.i64)
                              (Ty.prod (Ty.slice (Ty.int IntKind.u8))
                                (Ty.prod (Ty.slice (Ty.int IntKind.u8))
                                  (Ty.prod (Ty.int IntKind.i64)
                                    (Ty.prod (Ty.int IntKind.u64) (Ty.prod (Ty.int IntKind.i64) Ty.unit)))))),
                          X.d
                            (Ty.struct
                              (Ty.prod (Ty.int IntKind.i64)
                                (Ty.prod (Ty.slice (Ty.int IntKind.u8))
                                  (Ty.prod (Ty.slice (Ty.int IntKind.u8))
                                    (Ty.prod (Ty.int IntKind.i64)
                                      (Ty.prod (Ty.int IntKind.u64) (Ty.prod (Ty.int IntKind.i64) Ty.unit)))))))
                            (Option.rec ((fun _ => Ty.zero cmdT) ()) (fun val => (fun val => (fun x => x) val) val)
                              l[Int.toNat i]?))]
              else none
            else
              bif (List.getD l (Int.toNat i) (Ty.zero cmdT)).fst == (1 : Int) then
                bif
                    A.se
                      (decide
                          (List.length (b ++ [A.wrap IntKind.u8 (List.getD l (Int.toNat i) (Ty.zero cmdT)).fst]) ≤
                              (20000000 : Nat) ∧
                            List.length (List.getD l (Int.toNat i) (Ty.zero cmdT)).snd.snd.fst ≤ (20000000 : Nat)) &&
                        nlB (nb && List.isEmpty [A.wrap IntKind.u8 (List.getD l (Int.toNat i) (Ty.zero cmdT)).fst])
                          (b ++ [A.wrap IntKind.u8 (List.getD l (Int.toNat i) (Ty.zero cmdT)).fst])) then
                  bif (List.getD l (Int.toNat i) (Ty.zero cmdT)).fst == (5 : Int) then
                    bif
                        A.se
                          (isU64 (A.wrap IntKind.u64 (List.getD l (Int.toNat i) (Ty.zero cmdT)).snd.snd.snd.fst) &&
                            (decide
                                (List.length
                                    (A.se
                                      (b ++ [A.wrap IntKind.u8 (List.getD l (Int.toNat i) (Ty.zero cmdT)).fst] ++
                                        txt (List.getD l (Int.toNat i) (Ty.zero cmdT)).snd.snd.fst)) ≤
                                  (100000000 : Nat)) &&
                              nlO (some false)
                                (A.se
                                  (b ++ [A.wrap IntKind.u8 (List.getD l (Int.toNat i) (Ty.zero cmdT)).fst] ++
                                    txt (List.getD l (Int.toNat i) (Ty.zero cmdT)).snd.snd.fst)))) then
                      bif
                          A.se
                            (isU64 (List.getD l (Int.toNat i) (Ty.zero cmdT)).snd.snd.snd.snd.fst &&
                              (decide
                                  (List.length
                                      (A.se
                                        (A.se
                                            (b ++ [A.wrap IntKind.u8 (List.getD l (Int.toNat i) (Ty.zero cmdT)).fst] ++
                                              txt (List.getD l (Int.toNat i) (Ty.zero cmdT)).snd.snd.fst) ++
                                          vb
                                            (Int.toNat
                                              (A.wrap IntKind.u64
                                                (List.getD l (Int.toNat i) (Ty.zero cmdT)).snd.snd.snd.fst)))) ≤
                                    (100000000 : Nat)) &&
                                nlO (some false)
                                  (A.se
                                    (A.se
                                        (b ++ [A.wrap IntKind.u8 (List.getD l (Int.toNat i) (Ty.zero cmdT)).fst] ++
                                          txt (List.getD l (Int.toNat i) (Ty.zero cmdT)).snd.snd.fst) ++
                                      vb
                                        (Int.toNat
                                          (A.wrap IntKind.u64
                                            (List.getD l (Int.toNat i) (Ty.zero cmdT)).snd.snd.snd.fst)))))) then
                        bif
                            A.se
                              (isU64
                                  (A.wrap IntKind.u64 (List.getD l (Int.toNat i) (Ty.zero cmdT)).snd.snd.snd.snd.snd.fst) &&
                                (decide
                                    (List.length
                                        (A.se
                                          (A.se
                                              (A.se
                                                  (b ++
                                                      [A.wrap IntKind.u8 (List.getD l (Int.toNat i) (Ty.zero cmdT)).fst] ++
                                                    txt (List.getD l (Int.toNat i) (Ty.zero cmdT)).snd.snd.fst) ++
                                                vb
                                                  (Int.toNat
                                                    (A.wrap IntKind.u64
                                                      (List.getD l (Int.toNat i) (Ty.zero cmdT)).snd.snd.snd.fst))) ++
                                            vb
                                              (Int.toNat (List.getD l (Int.toNat i) (Ty.zero cmdT)).snd.snd.snd.snd.fst))) ≤
                                      (100000000 : Nat)) &&
                                  nlO (some false)
                                    (A.se
                                      (A.se
                                          (A.se
                                              (b ++ [A.wrap IntKind.u8 (List.getD l (Int.toNat i) (Ty.zero cmdT)).fst] ++
                                                txt (List.getD l (Int.toNat i) (Ty.zero cmdT)).snd.snd.fst) ++
                                            vb
                                              (Int.toNat
                                                (A.wrap IntKind.u64
                                                  (List.getD l (Int.toNat i) (Ty.zero cmdT)).snd.snd.snd.fst))) ++
                                        vb
                                          (Int.toNat
                                            (List.getD l (Int.toNat i) (Ty.zero cmdT)).snd.snd.snd.snd.fst))))) then
                          k Ex.normal
                            [X.sl cmdT l nl false, X.sl (Ty.int IntKind.u8) [] (some true) true, X.d (Ty.int IntKind.i64) z,
                              X.sl (Ty.int IntKind.u8)
                                (A.se
                                  (A.se
                                      (A.se
                                          (A.se
                                              (b ++ [A.wrap IntKind.u8 (List.getD l (Int.toNat i) (Ty.zero cmdT)).fst] ++
                                                txt (List.getD l (Int.toNat i) (Ty.zero cmdT)).snd.snd.fst) ++
                                            vb
                                              (Int.toNat
                                                (A.wrap IntKind.u64
                                                  (List.getD l (Int.toNat i) (Ty.zero cmdT)).snd.snd.snd.fst))) ++
                                        vb (Int.toNat (List.getD l (Int.toNat i) (Ty.zero cmdT)).snd.snd.snd.snd.fst)) ++
                                    vb
                                      (Int.toNat
                                        (A.wrap IntKind.u64
                                          (List.getD l (Int.toNat i) (Ty.zero cmdT)).snd.snd.snd.snd.snd.fst))))
                                (some false) true,
                              X.d (Ty.int IntKind.i64) (A.wrap IntKind.i64 (i + (1 : Int)))]
                            [(Ty.struct
                                  (Ty.prod (Ty.int IntKind.i64)
                                    (Ty.prod (Ty.slice (Ty.int IntKind.u8))
                                      (Ty.prod (Ty.slice (Ty.int IntKind.u8))
                                        (Ty.prod (Ty.int IntKind.i64)
                                          (Ty.prod (Ty.int IntKind.u64) (Ty.prod (Ty.int IntKind.i64) Ty.unit)))))),
                                X.d
                                  (Ty.struct
                                    (Ty.prod (Ty.int IntKind.i64)
                                      (Ty.prod (Ty.slice (Ty.int IntKind.u8))
                                        (Ty.prod (Ty.slice (Ty.int IntKind.u8))
                                          (Ty.prod (Ty.int IntKind.i64)
                                            (Ty.prod (Ty.int IntKind.u64) (Ty.prod (Ty.int IntKind.i64) Ty.unit)))))))
                                  (Option.rec ((fun _ => Ty.zero cmdT) ()) (fun val => (fun val => (fun x => x) val) val)
                                    l[Int.toNat i]?))]
                        else none
                      else none
                    else none
                  else
                    k Ex.normal
                      [X.sl cmdT l nl false, X.sl (Ty.int IntKind.u8) [] (some true) true, X.d (Ty.int IntKind.i64) z,
                        X.sl (Ty.int IntKind.u8)
                          (A.se
                            (b ++ [A.wrap IntKind.u8 (List.getD l (Int.toNat i) (Ty.zero cmdT)).fst] ++
                              txt (List.getD l (Int.toNat i) (Ty.zero cmdT)).snd.snd.fst))
                          (some false) true,
                        X.d (Ty.int IntKind.i64) (A.wrap IntKind.i64 (i + (1 : Int)))]
                      [(Ty.struct
                            (Ty.prod (Ty.int IntKind.i64)
                              (Ty.prod (Ty.slice (Ty.int IntKind.u8))
                                (Ty.prod (Ty.slice (Ty.int IntKind.u8))
                                  (Ty.prod (Ty.int IntKind.i64)
                                    (Ty.prod (Ty.int IntKind.u64) (Ty.prod (Ty.int IntKind.i64) Ty.unit)))))),
                          X.d
                            (Ty.struct
                              (Ty.prod (Ty.int IntKind.i64)
                                (Ty.prod (Ty.slice (Ty.int IntKind.u8))
                                  (Ty.prod (Ty.slice (Ty.int IntKind.u8))
                                    (Ty.prod (Ty.int IntKind.i64)
                                      (Ty.prod (Ty.int IntKind.u64) (Ty.prod (Ty.int IntKind.i64) Ty.unit)))))))
                            (Option.rec ((fun _ => Ty.zero cmdT) ()) (fun val => (fun val => (fun x => x) val) val)
                              l[Int.toNat i]?))]
                else none
              else
                bif (List.getD l (Int.toNat i) (Ty.zero cmdT)).fst == (5 : Int) then
                  bif
                      A.se
                        (isU64 (A.wrap IntKind.u64 (List.getD l (Int.toNat i) (Ty.zero cmdT)).snd.snd.snd.fst) &&
                          (decide
                              (List.length (b ++ [A.wrap IntKind.u8 (List.getD l (Int.toNat i) (Ty.zero cmdT)).fst]) ≤
                                (100000000 : Nat)) &&
                            nlO
                              (Option.map
                                (fun x =>
                                  x && List.isEmpty [A.wrap IntKind.u8 (List.getD l (Int.toNat i) (Ty.zero cmdT)).fst])
                                (some nb))
                              (b ++ [A.wrap IntKind.u8 (List.getD l (Int.toNat i) (Ty.zero cmdT)).fst]))) then
                    bif
                        A.se
                          (isU64 (List.getD l (Int.toNat i) (Ty.zero cmdT)).snd.snd.snd.snd.fst &&
                            (decide
                                (List.length
                                    (A.se
                                      (b ++ [A.wrap IntKind.u8 (List.getD l (Int.toNat i) (Ty.zero cmdT)).fst] ++
                                        vb
                                          (Int.toNat
                                            (A.wrap IntKind.u64
                                              (List.getD l (Int.toNat i) (Ty.zero cmdT)).snd.snd.snd.fst)))) ≤
                                  (100000000 : Nat)) &&
                              nlO (some false)
                                (A.se
                                  (b ++ [A.wrap IntKind.u8 (List.getD l (Int.toNat i) (Ty.zero cmdT)).fst] ++
                                    vb
                                      (Int.toNat
                                        (A.wrap IntKind.u64
                                          (List.getD l (Int.toNat i) (Ty.zero cmdT)).snd.snd.snd.fst)))))) then
                      bif
                          A.se
                            (isU64
                                (A.wrap IntKind.u64 (List.getD l (Int.toNat i) (Ty.zero cmdT)).snd.snd.snd.snd.snd.fst) &&
                              (decide
                                  (List.length
                                      (A.se
                                        (A.se
                                            (b ++ [A.wrap IntKind.u8 (List.getD l (Int.toNat i) (Ty.zero cmdT)).fst] ++
                                              vb
                                                (Int.toNat
                                                  (A.wrap IntKind.u64
                                                    (List.getD l (Int.toNat i) (Ty.zero cmdT)).snd.snd.snd.fst))) ++
                                          vb (Int.toNat (List.getD l (Int.toNat i) (Ty.zero cmdT)).snd.snd.snd.snd.fst))) ≤
                                    (100000000 : Nat)) &&
                                nlO (some false)
                                  (A.se
                                    (A.se
                                        (b ++ [A.wrap IntKind.u8 (List.getD l (Int.toNat i) (Ty.zero cmdT)).fst] ++
                                          vb
                                            (Int.toNat
                                              (A.wrap IntKind.u64
                                                (List.getD l (Int.toNat i) (Ty.zero cmdT)).snd.snd.snd.fst))) ++
                                      vb (Int.toNat (List.getD l (Int.toNat i) (Ty.zero cmdT)).snd.snd.snd.snd.fst))))) then
                        k Ex.normal
                          [X.sl cmdT l nl false, X.sl (Ty.int IntKind.u8) [] (some true) true, X.d (Ty.int IntKind.i64) z,
                            X.sl (Ty.int IntKind.u8)
                              (A.se
                                (A.se
                                    (A.se
                                        (b ++ [A.wrap IntKind.u8 (List.getD l (Int.toNat i) (Ty.zero cmdT)).fst] ++
                                          vb
                                            (Int.toNat
                                              (A.wrap IntKind.u64
                                                (List.getD l (Int.toNat i) (Ty.zero cmdT)).snd.snd.snd.fst))) ++
                                      vb (Int.toNat (List.getD l (Int.toNat i) (Ty.zero cmdT)).snd.snd.snd.snd.fst)) ++
                                  vb
                                    (Int.toNat
                                      (A.wrap IntKind.u64
                                        (List.getD l (Int.toNat i) (Ty.zero cmdT)).snd.snd.snd.snd.snd.fst))))
                              (some false) true,
                            X.d (Ty.int IntKind.i64) (A.wrap IntKind.i64 (i + (1 : Int)))]
                          [(Ty.struct
                                (Ty.prod (Ty.int IntKind.i64)
                                  (Ty.prod (Ty.slice (Ty.int IntKind.u8))
                                    (Ty.prod (Ty.slice (Ty.int IntKind.u8))
                                      (Ty.prod (Ty.int IntKind.i64)
                                        (Ty.prod (Ty.int IntKind.u64) (Ty.prod (Ty.int IntKind.i64) Ty.unit)))))),
                              X.d
                                (Ty.struct
                                  (Ty.prod (Ty.int IntKind.i64)
                                    (Ty.prod (Ty.slice (Ty.int IntKind.u8))
                                      (Ty.prod (Ty.slice (Ty.int IntKind.u8))
                                        (Ty.prod (Ty.int IntKind.i64)
                                          (Ty.prod (Ty.int IntKind.u64) (Ty.prod (Ty.int IntKind.i64) Ty.unit)))))))
                                (Option.rec ((fun _ => Ty.zero cmdT) ()) (fun val => (fun val => (fun x => x) val) val)
                                  l[Int.toNat i]?))]
                      else none
                    else none
                  else none
                else
                  k Ex.normal
                    [X.sl cmdT l nl false, X.sl (Ty.int IntKind.u8) [] (some true) true, X.d (Ty.int IntKind.i64) z,
                      X.sl (Ty.int IntKind.u8) (b ++ [A.wrap IntKind.u8 (List.getD l (Int.toNat i) (Ty.zero cmdT)).fst])
                        (some (nb && List.isEmpty [A.wrap IntKind.u8 (List.getD l (Int.toNat i) (Ty.zero cmdT)).fst])) true,
                      X.d (Ty.int IntKind.i64) (A.wrap IntKind.i64 (i + (1 : Int)))]
                    [(Ty.struct
                          (Ty.prod (Ty.int IntKind.i64)
                            (Ty.prod (Ty.slice (Ty.int IntKind.u8))
                              (Ty.prod (Ty.slice (Ty.int IntKind.u8))
                                (Ty.prod (Ty.int IntKind.i64)
                                  (Ty.prod (Ty.int IntKind.u64) (Ty.prod (Ty.int IntKind.i64) Ty.unit)))))),
                        X.d
                          (Ty.struct
                            (Ty.prod (Ty.int IntKind.i64)
                              (Ty.prod (Ty.slice (Ty.int IntKind.u8))
                                (Ty.prod (Ty.slice (Ty.int IntKind.u8))
                                  (Ty.prod (Ty.int IntKind.i64)
                                    (Ty.prod (Ty.int IntKind.u64) (Ty.prod (Ty.int IntKind.i64) Ty.unit)))))))
                          (Option.rec ((fun _ => Ty.zero cmdT) ()) (fun val => (fun val => (fun x => x) val) val)
                            l[Int.toNat i]?))]
          else none
      else none
    else
      k (Ex.exit (0 : Nat))
        [X.sl cmdT l nl false, X.sl (Ty.int IntKind.u8) [] (some true) true, X.d (Ty.int IntKind.i64) z,
          X.sl (Ty.int IntKind.u8) b (some nb) true, X.d (Ty.int IntKind.i64) i]
        []) := by kernel_rfl
theorem tTakeM (A : Ar) (most : Int) (b : List Int) (ok : Bool) (c : Cm) (H : Hp) : bodyX (Cx A (Osc3 A) noL) 100 Try.f32 [.ptr 0 [], u64x most] ((rdT, .d rdT ((b, ok, ()), c, ())) :: H) =
    (bif A.se (decide (List.length b ≤ (100000000 : Nat)) && (bytesB b && nlO none b)) then
      bif ok == true then
        bif (A.se (tkE b) == (0 : Int)) == true then
          bif !decide (A.se (tkN b) ≤ most) then
            some
              (X.d (Ty.int IntKind.u64) (0 : Int),
                (rdT,
                    X.agg
                      [X.agg [X.sl (Ty.int IntKind.u8) b none false, X.d Ty.bool (decide (A.se (tkN b) ≤ most))],
                        X.d cmdT c]) ::
                  H)
          else
            some
              (X.d (Ty.int IntKind.u64) (A.se (tkN b)),
                (rdT,
                    X.agg
                      [X.agg
                          [X.sl (Ty.int IntKind.u8) (A.se (tkR b)) (some (A.se !tkB b)) false,
                            X.d Ty.bool (decide (A.se (tkN b) ≤ most))],
                        X.d cmdT c]) ::
                  H)
        else
          some
            (X.d (Ty.int IntKind.u64) (0 : Int),
              (rdT, X.agg [X.agg [X.sl (Ty.int IntKind.u8) b none false, X.d Ty.bool false], X.d cmdT c]) :: H)
      else
        some
          (X.d (Ty.int IntKind.u64) (0 : Int),
            (rdT, X.agg [X.agg [X.sl (Ty.int IntKind.u8) b none false, X.d Ty.bool false], X.d cmdT c]) :: H)
    else none) := by kernel_rfl
theorem tTakeText (A : Ar) (b : List Int) (ok : Bool) (c : Cm) (H : Hp) : bodyX (Cx A (Osc4 A) noL) 100 Try.f31 [.ptr 0 []] ((rdT, .d rdT ((b, ok, ()), c, ())) :: H) =
    (bif
        A.se
          (decide (List.length b ≤ (10000000 : Nat)) &&
            (bytesB b && isU64 (A.wrap IntKind.u64 (↑(List.length b) : Int)))) then
      bif A.se (tkS (Int.toNat (A.wrap IntKind.u64 (↑(List.length b) : Int))) b ok).snd.snd == true then
        bif
            !decide
                (A.se (↑(tkS (Int.toNat (A.wrap IntKind.u64 (↑(List.length b) : Int))) b ok).fst : Int) ≤
                  A.wrap IntKind.u64
                    (↑(List.length (A.se (tkS (Int.toNat (A.wrap IntKind.u64 (↑(List.length b) : Int))) b ok).snd.fst)) :
                      Int)) then
          some
            (X.sl (Ty.int IntKind.u8) [] (some true) true,
              (rdT,
                  X.agg
                    [X.agg
                        [X.sl (Ty.int IntKind.u8)
                            (A.se (tkS (Int.toNat (A.wrap IntKind.u64 (↑(List.length b) : Int))) b ok).snd.fst) none false,
                          X.d Ty.bool
                            (decide
                              (A.se (↑(tkS (Int.toNat (A.wrap IntKind.u64 (↑(List.length b) : Int))) b ok).fst : Int) ≤
                                A.wrap IntKind.u64
                                  (↑(List.length
                                        (A.se
                                          (tkS (Int.toNat (A.wrap IntKind.u64 (↑(List.length b) : Int))) b ok).snd.fst)) :
                                    Int)))],
                      X.d cmdT c]) ::
                H)
        else
          bif
              decide
                ((0 : Int) ≤
                    A.se (↑(tkS (Int.toNat (A.wrap IntKind.u64 (↑(List.length b) : Int))) b ok).fst : Int) ∧
                  A.se (↑(tkS (Int.toNat (A.wrap IntKind.u64 (↑(List.length b) : Int))) b ok).fst : Int) ≤
                    (↑(List.length (A.se (tkS (Int.toNat (A.wrap IntKind.u64 (↑(List.length b) : Int))) b ok).snd.fst)) :
                      Int)) then
            bif
                A.se
                  (decide
                      (List.length
                          (List.take
                            (Int.toNat
                              (A.se (↑(tkS (Int.toNat (A.wrap IntKind.u64 (↑(List.length b) : Int))) b ok).fst : Int)))
                            (A.se (tkS (Int.toNat (A.wrap IntKind.u64 (↑(List.length b) : Int))) b ok).snd.fst)) ≤
                        (1000000000 : Nat)) &&
                    nlO none
                      (List.take
                        (Int.toNat (A.se (↑(tkS (Int.toNat (A.wrap IntKind.u64 (↑(List.length b) : Int))) b ok).fst : Int)))
                        (A.se (tkS (Int.toNat (A.wrap IntKind.u64 (↑(List.length b) : Int))) b ok).snd.fst))) then
              bif
                  decide
                    ((0 : Int) ≤
                        A.se (↑(tkS (Int.toNat (A.wrap IntKind.u64 (↑(List.length b) : Int))) b ok).fst : Int) ∧
                      A.se (↑(tkS (Int.toNat (A.wrap IntKind.u64 (↑(List.length b) : Int))) b ok).fst : Int) ≤
                        (↑(List.length
                              (A.se (tkS (Int.toNat (A.wrap IntKind.u64 (↑(List.length b) : Int))) b ok).snd.fst)) :
                          Int)) then
                some
                  (X.sl (Ty.int IntKind.u8)
                      (List.take
                        (Int.toNat (A.se (↑(tkS (Int.toNat (A.wrap IntKind.u64 (↑(List.length b) : Int))) b ok).fst : Int)))
                        (A.se (tkS (Int.toNat (A.wrap IntKind.u64 (↑(List.length b) : Int))) b ok).snd.fst))
                      none false,
                    (rdT,
                        X.agg
                          [X.agg
                              [X.sl (Ty.int IntKind.u8)
                                  (List.drop
                                    (Int.toNat
                                      (A.se
                                        (↑(tkS (Int.toNat (A.wrap IntKind.u64 (↑(List.length b) : Int))) b ok).fst : Int)))
                                    (A.se (tkS (Int.toNat (A.wrap IntKind.u64 (↑(List.length b) : Int))) b ok).snd.fst))
                                  none false,
                                X.d Ty.bool
                                  (decide
                                    (A.se
                                        (↑(tkS (Int.toNat (A.wrap IntKind.u64 (↑(List.length b) : Int))) b ok).fst : Int) ≤
                                      A.wrap IntKind.u64
                                        (↑(List.length
                                              (A.se
                                                (tkS (Int.toNat (A.wrap IntKind.u64 (↑(List.length b) : Int))) b
                                                      ok).snd.fst)) :
                                          Int)))],
                            X.d cmdT c]) ::
                      H)
              else none
            else none
          else none
      else
        some
          (X.sl (Ty.int IntKind.u8) [] (some true) true,
            (rdT,
                X.agg
                  [X.agg
                      [X.sl (Ty.int IntKind.u8)
                          (A.se (tkS (Int.toNat (A.wrap IntKind.u64 (↑(List.length b) : Int))) b ok).snd.fst) none false,
                        X.d Ty.bool false],
                    X.d cmdT c]) ::
              H)
    else none) := by kernel_rfl
theorem tRtakeText (A : Ar) (b : List Int) (nl : Option Bool) : bodyX (Cx A (Osc3 A) noL) 100 Try.f33 [.sl (.int .u8) b nl false] [] =
    (bif A.se (decide (List.length b ≤ (100000000 : Nat)) && (bytesB b && nlO nl b)) then
      bif (A.se (tkE b) != (0 : Int)) == false then
        bif decide (A.se (tkN b) > A.wrap IntKind.u64 (↑(List.length (A.se (tkR b))) : Int)) then
          some
            (X.tup
                [X.sl (Ty.int IntKind.u8) [] (some true) false, X.sl (Ty.int IntKind.u8) [] (some true) false,
                  X.d Ty.bool false],
              [])
        else
          bif
              decide
                ((0 : Int) ≤ A.se (tkN b) ∧
                  A.se (tkN b) ≤ (↑(List.length (A.se (tkR b))) : Int)) then
            bif
                decide
                  ((0 : Int) ≤ A.se (tkN b) ∧
                    A.se (tkN b) ≤ (↑(List.length (A.se (tkR b))) : Int)) then
              some
                (X.tup
                    [X.sl (Ty.int IntKind.u8) (List.take (Int.toNat (A.se (tkN b))) (A.se (tkR b))) (some (A.se !tkB b))
                        false,
                      X.sl (Ty.int IntKind.u8) (List.drop (Int.toNat (A.se (tkN b))) (A.se (tkR b))) (some (A.se !tkB b))
                        false,
                      X.d Ty.bool true],
                  [])
            else none
          else none
      else
        some
          (X.tup
              [X.sl (Ty.int IntKind.u8) [] (some true) false, X.sl (Ty.int IntKind.u8) [] (some true) false,
                X.d Ty.bool false],
            [])
    else none) := by kernel_rfl
theorem tNumbers (A : Ar) (c : Cm) (b : List Int) (nl : Option Bool) : bodyX (Cx A (Osc3 A) noL) 100 Try.f34 [cmx c, .sl (.int .u8) b nl false] [] =
    (bif A.se (decide (List.length b ≤ (100000000 : Nat)) && (bytesB b && nlO nl b)) then
      bif
          A.se
            (decide (List.length (A.se (tkR b)) ≤ (100000000 : Nat)) &&
              (bytesB (A.se (tkR b)) && nlO (some (A.se !tkB b)) (A.se (tkR b)))) then
        bif
            A.se
              (decide (List.length (A.se (tkR (A.se (tkR b)))) ≤ (100000000 : Nat)) &&
                (bytesB (A.se (tkR (A.se (tkR b)))) &&
                  nlO (some (A.se !tkB (A.se (tkR b)))) (A.se (tkR (A.se (tkR b)))))) then
          bif (A.se (tkE b) != (0 : Int)) == false then
            bif (A.se (tkE (A.se (tkR b))) != (0 : Int)) == false then
              bif (A.se (tkE (A.se (tkR (A.se (tkR b))))) != (0 : Int)) == false then
                bif decide (A.se (tkN b) > (9223372036854775807 : Int)) == false then
                  bif decide (A.se (tkN (A.se (tkR (A.se (tkR b))))) > (9223372036854775807 : Int)) then
                    some
                      (X.tup
                          [X.d
                              (Ty.struct
                                (Ty.prod (Ty.int IntKind.i64)
                                  (Ty.prod (Ty.slice (Ty.int IntKind.u8))
                                    (Ty.prod (Ty.slice (Ty.int IntKind.u8))
                                      (Ty.prod (Ty.int IntKind.i64)
                                        (Ty.prod (Ty.int IntKind.u64) (Ty.prod (Ty.int IntKind.i64) Ty.unit)))))))
                              ((0 : Int), [], [], (0 : Int), (0 : Int), (0 : Int), ()),
                            X.sl (Ty.int IntKind.u8) [] (some true) false, X.d Ty.bool false],
                        [(Ty.struct
                              (Ty.prod (Ty.int IntKind.i64)
                                (Ty.prod (Ty.slice (Ty.int IntKind.u8))
                                  (Ty.prod (Ty.slice (Ty.int IntKind.u8))
                                    (Ty.prod (Ty.int IntKind.i64)
                                      (Ty.prod (Ty.int IntKind.u64) (Ty.prod (Ty.int IntKind.i64) Ty.unit)))))),
                            X.d cmdT c),
                          (Ty.struct
                              (Ty.prod (Ty.int IntKind.i64)
                                (Ty.prod (Ty.slice (Ty.int IntKind.u8))
                                  (Ty.prod (Ty.slice (Ty.int IntKind.u8))
                                    (Ty.prod (Ty.int IntKind.i64)
                                      (Ty.prod (Ty.int IntKind.u64) (Ty.prod (Ty.int IntKind.i64) Ty.unit)))))),
                            X.d
                              (Ty.struct
                                (Ty.prod (Ty.int IntKind.i64)
                                  (Ty.prod (Ty.slice (Ty.int IntKind.u8))
                                    (Ty.prod (Ty.slice (Ty.int IntKind.u8))
                                      (Ty.prod (Ty.int IntKind.i64)
                                        (Ty.prod (Ty.int IntKind.u64) (Ty.prod (Ty.int IntKind.i64) Ty.unit)))))))
                              ((0 : Int), [], [], (0 : Int), (0 : Int), (0 : Int), ()))])
                  else
                    some
                      (X.tup
                          [X.d
                              (Ty.struct
                                (Ty.prod (Ty.int IntKind.i64)
                                  (Ty.prod (Ty.slice (Ty.int IntKind.u8))
                                    (Ty.prod (Ty.slice (Ty.int IntKind.u8))
                                      (Ty.prod (Ty.int IntKind.i64)
                                        (Ty.prod (Ty.int IntKind.u64) (Ty.prod (Ty.int IntKind.i64) Ty.unit)))))))
                              (c.fst, c.snd.fst, c.snd.snd.fst, A.wrap IntKind.i64 (A.se (tkN b)),
                                A.se (tkN (A.se (tkR b))), A.wrap IntKind.i64 (A.se (tkN (A.se (tkR (A.se (tkR b)))))), ()),
                            X.sl (Ty.int IntKind.u8) (A.se (tkR (A.se (tkR (A.se (tkR b))))))
                              (some (A.se !tkB (A.se (tkR (A.se (tkR b)))))) false,
                            X.d Ty.bool true],
                        [(Ty.struct
                              (Ty.prod (Ty.int IntKind.i64)
                                (Ty.prod (Ty.slice (Ty.int IntKind.u8))
                                  (Ty.prod (Ty.slice (Ty.int IntKind.u8))
                                    (Ty.prod (Ty.int IntKind.i64)
                                      (Ty.prod (Ty.int IntKind.u64) (Ty.prod (Ty.int IntKind.i64) Ty.unit)))))),
                            X.agg
                              [X.d (Ty.int IntKind.i64) c.fst, X.sl (Ty.int IntKind.u8) c.snd.fst none false,
                                X.sl (Ty.int IntKind.u8) c.snd.snd.fst none false,
                                X.d (Ty.int IntKind.i64) (A.wrap IntKind.i64 (A.se (tkN b))),
                                X.d (Ty.int IntKind.u64) (A.se (tkN (A.se (tkR b)))),
                                X.d (Ty.int IntKind.i64) (A.wrap IntKind.i64 (A.se (tkN (A.se (tkR (A.se (tkR b)))))))]),
                          (Ty.struct
                              (Ty.prod (Ty.int IntKind.i64)
                                (Ty.prod (Ty.slice (Ty.int IntKind.u8))
                                  (Ty.prod (Ty.slice (Ty.int IntKind.u8))
                                    (Ty.prod (Ty.int IntKind.i64)
                                      (Ty.prod (Ty.int IntKind.u64) (Ty.prod (Ty.int IntKind.i64) Ty.unit)))))),
                            X.d
                              (Ty.struct
                                (Ty.prod (Ty.int IntKind.i64)
                                  (Ty.prod (Ty.slice (Ty.int IntKind.u8))
                                    (Ty.prod (Ty.slice (Ty.int IntKind.u8))
                                      (Ty.prod (Ty.int IntKind.i64)
                                        (Ty.prod (Ty.int IntKind.u64) (Ty.prod (Ty.int IntKind.i64) Ty.unit)))))))
                              (c.fst, c.snd.fst, c.snd.snd.fst, A.wrap IntKind.i64 (A.se (tkN b)),
                                A.se (tkN (A.se (tkR b))), A.wrap IntKind.i64 (A.se (tkN (A.se (tkR (A.se (tkR b)))))),
                                ()))])
                else
                  some
                    (X.tup
                        [X.d
                            (Ty.struct
                              (Ty.prod (Ty.int IntKind.i64)
                                (Ty.prod (Ty.slice (Ty.int IntKind.u8))
                                  (Ty.prod (Ty.slice (Ty.int IntKind.u8))
                                    (Ty.prod (Ty.int IntKind.i64)
                                      (Ty.prod (Ty.int IntKind.u64) (Ty.prod (Ty.int IntKind.i64) Ty.unit)))))))
                            ((0 : Int), [], [], (0 : Int), (0 : Int), (0 : Int), ()),
                          X.sl (Ty.int IntKind.u8) [] (some true) false, X.d Ty.bool false],
                      [(Ty.struct
                            (Ty.prod (Ty.int IntKind.i64)
                              (Ty.prod (Ty.slice (Ty.int IntKind.u8))
                                (Ty.prod (Ty.slice (Ty.int IntKind.u8))
                                  (Ty.prod (Ty.int IntKind.i64)
                                    (Ty.prod (Ty.int IntKind.u64) (Ty.prod (Ty.int IntKind.i64) Ty.unit)))))),
                          X.d cmdT c),
                        (Ty.struct
                            (Ty.prod (Ty.int IntKind.i64)
                              (Ty.prod (Ty.slice (Ty.int IntKind.u8))
                                (Ty.prod (Ty.slice (Ty.int IntKind.u8))
                                  (Ty.prod (Ty.int IntKind.i64)
                                    (Ty.prod (Ty.int IntKind.u64) (Ty.prod (Ty.int IntKind.i64) Ty.unit)))))),
                          X.d
                            (Ty.struct
                              (Ty.prod (Ty.int IntKind.i64)
                                (Ty.prod (Ty.slice (Ty.int IntKind.u8))
                                  (Ty.prod (Ty.slice (Ty.int IntKind.u8))
                                    (Ty.prod (Ty.int IntKind.i64)
                                      (Ty.prod (Ty.int IntKind.u64) (Ty.prod (Ty.int IntKind.i64) Ty.unit)))))))
                            ((0 : Int), [], [], (0 : Int), (0 : Int), (0 : Int), ()))])
              else
                some
                  (X.tup
                      [X.d
                          (Ty.struct
                            (Ty.prod (Ty.int IntKind.i64)
                              (Ty.prod (Ty.slice (Ty.int IntKind.u8))
                                (Ty.prod (Ty.slice (Ty.int IntKind.u8))
                                  (Ty.prod (Ty.int IntKind.i64)
                                    (Ty.prod (Ty.int IntKind.u64) (Ty.prod (Ty.int IntKind.i64) Ty.unit)))))))
                          ((0 : Int), [], [], (0 : Int), (0 : Int), (0 : Int), ()),
                        X.sl (Ty.int IntKind.u8) [] (some true) false, X.d Ty.bool false],
                    [(Ty.struct
                          (Ty.prod (Ty.int IntKind.i64)
                            (Ty.prod (Ty.slice (Ty.int IntKind.u8))
                              (Ty.prod (Ty.slice (Ty.int IntKind.u8))
                                (Ty.prod (Ty.int IntKind.i64)
                                  (Ty.prod (Ty.int IntKind.u64) (Ty.prod (Ty.int IntKind.i64) Ty.unit)))))),
                        X.d cmdT c),
                      (Ty.struct
                          (Ty.prod (Ty.int IntKind.i64)
                            (Ty.prod (Ty.slice (Ty.int IntKind.u8))
                              (Ty.prod (Ty.slice (Ty.int IntKind.u8))
                                (Ty.prod (Ty.int IntKind.i64)
                                  (Ty.prod (Ty.int IntKind.u64) (Ty.prod (Ty.int IntKind.i64) Ty.unit)))))),
                        X.d
                          (Ty.struct
                            (Ty.prod (Ty.int IntKind.i64)
                              (Ty.prod (Ty.slice (Ty.int IntKind.u8))
                                (Ty.prod (Ty.slice (Ty.int IntKind.u8))
                                  (Ty.prod (Ty.int IntKind.i64)
                                    (Ty.prod (Ty.int IntKind.u64) (Ty.prod (Ty.int IntKind.i64) Ty.unit)))))))
                          ((0 : Int), [], [], (0 : Int), (0 : Int), (0 : Int), ()))])
            else
              some
                (X.tup
                    [X.d
                        (Ty.struct
                          (Ty.prod (Ty.int IntKind.i64)
                            (Ty.prod (Ty.slice (Ty.int IntKind.u8))
                              (Ty.prod (Ty.slice (Ty.int IntKind.u8))
                                (Ty.prod (Ty.int IntKind.i64)
                                  (Ty.prod (Ty.int IntKind.u64) (Ty.prod (Ty.int IntKind.i64) Ty.unit)))))))
                        ((0 : Int), [], [], (0 : Int), (0 : Int), (0 : Int), ()),
                      X.sl (Ty.int IntKind.u8) [] (some true) false, X.d Ty.bool false],
                  [(Ty.struct
                        (Ty.prod (Ty.int IntKind.i64)
                          (Ty.prod (Ty.slice (Ty.int IntKind.u8))
                            (Ty.prod (Ty.slice (Ty.int IntKind.u8))
                              (Ty.prod (Ty.int IntKind.i64)
                                (Ty.prod (Ty.int IntKind.u64) (Ty.prod (Ty.int IntKind.i64) Ty.unit)))))),
                      X.d cmdT c),
                    (Ty.struct
                        (Ty.prod (Ty.int IntKind.i64)
                          (Ty.prod (Ty.slice (Ty.int IntKind.u8))
                            (Ty.prod (Ty.slice (Ty.int IntKind.u8))
                              (Ty.prod (Ty.int IntKind.i64)
                                (Ty.prod (Ty.int IntKind.u64) (Ty.prod (Ty.int IntKind.i64) Ty.unit)))))),
                      X.d
                        (Ty.struct
                          (Ty.prod (Ty.int IntKind.i64)
                            (Ty.prod (Ty.slice (Ty.int IntKind.u8))
                              (Ty.prod (Ty.slice (Ty.int IntKind.u8))
                                (Ty.prod (Ty.int IntKind.i64)
                                  (Ty.prod (Ty.int IntKind.u64) (Ty.prod (Ty.int IntKind.i64) Ty.unit)))))))
                        ((0 : Int), [], [], (0 : Int), (0 : Int), (0 : Int), ()))])
          else
            some
              (X.tup
                  [X.d
                      (Ty.struct
                        (Ty.prod (Ty.int IntKind.i64)
                          (Ty.prod (Ty.slice (Ty.int IntKind.u8))
                            (Ty.prod (Ty.slice (Ty.int IntKind.u8))
                              (Ty.prod (Ty.int IntKind.i64)
                                (Ty.prod (Ty.int IntKind.u64) (Ty.prod (Ty.int IntKind.i64) Ty.unit)))))))
                      ((0 : Int), [], [], (0 : Int), (0 : Int), (0 : Int), ()),
                    X.sl (Ty.int IntKind.u8) [] (some true) false, X.d Ty.bool false],
                [(Ty.struct
                      (Ty.prod (Ty.int IntKind.i64)
                        (Ty.prod (Ty.slice (Ty.int IntKind.u8))
                          (Ty.prod (Ty.slice (Ty.int IntKind.u8))
                            (Ty.prod (Ty.int IntKind.i64)
                              (Ty.prod (Ty.int IntKind.u64) (Ty.prod (Ty.int IntKind.i64) Ty.unit)))))),
                    X.d cmdT c),
                  (Ty.struct
                      (Ty.prod (Ty.int IntKind.i64)
                        (Ty.prod (Ty.slice (Ty.int IntKind.u8))
                          (Ty.prod (Ty.slice (Ty.int IntKind.u8))
                            (Ty.prod (Ty.int IntKind.i64)
                              (Ty.prod (Ty.int IntKind.u64) (Ty.prod (Ty.int IntKind.i64) Ty.unit)))))),
                    X.d
                      (Ty.struct
                        (Ty.prod (Ty.int IntKind.i64)
                          (Ty.prod (Ty.slice (Ty.int IntKind.u8))
                            (Ty.prod (Ty.slice (Ty.int IntKind.u8))
                              (Ty.prod (Ty.int IntKind.i64)
                                (Ty.prod (Ty.int IntKind.u64) (Ty.prod (Ty.int IntKind.i64) Ty.unit)))))))
                      ((0 : Int), [], [], (0 : Int), (0 : Int), (0 : Int), ()))])
        else none
      else none
    else none) := by kernel_rfl
theorem tOneC (A : Ar) (b : List Int) (nl : Option Bool) : bodyX (Cx A (Osc4 A) noL) 100 Try.f26 [.sl (.int .u8) b nl false] [] =
    (bif decide ((0 : Int) ≤ (0 : Int) ∧ (0 : Int) < (↑(List.length b) : Int)) then
      bif decide ((0 : Int) ≤ (1 : Int) ∧ (1 : Int) ≤ (↑(List.length b) : Int)) then
        bif
            decide (A.wrap IntKind.i64 (List.getD b (Int.toNat (0 : Int)) (0 : Int)) ≥ (1 : Int)) ==
              true then
          bif
              decide (A.wrap IntKind.i64 (List.getD b (Int.toNat (0 : Int)) (0 : Int)) ≤ (5 : Int)) ==
                true then
            bif A.wrap IntKind.i64 (List.getD b (Int.toNat (0 : Int)) (0 : Int)) != (3 : Int) then
              bif
                  A.se
                    (decide (List.length (List.drop (Int.toNat (1 : Int)) b) ≤ (10000000 : Nat)) &&
                      (bytesB (List.drop (Int.toNat (1 : Int)) b) && nlO nl (List.drop (Int.toNat (1 : Int)) b))) then
                bif A.se (Option.isSome (takeT (List.drop (Int.toNat (1 : Int)) b))) == true then
                  bif A.wrap IntKind.i64 (List.getD b (Int.toNat (0 : Int)) (0 : Int)) == (1 : Int) then
                    bif
                        A.se
                          (decide (List.length (A.se (ttR (List.drop (Int.toNat (1 : Int)) b))) ≤ (10000000 : Nat)) &&
                            (bytesB (A.se (ttR (List.drop (Int.toNat (1 : Int)) b))) &&
                              nlO (some (A.se !Option.isSome (takeT (List.drop (Int.toNat (1 : Int)) b))))
                                (A.se (ttR (List.drop (Int.toNat (1 : Int)) b))))) then
                      bif A.se (Option.isSome (takeT (A.se (ttR (List.drop (Int.toNat (1 : Int)) b))))) == true then
                        bif
                            A.wrap IntKind.i64 (List.getD b (Int.toNat (0 : Int)) (0 : Int)) ==
                              (5 : Int) then
                          bif
                              A.se
                                (decide
                                    (List.length (A.se (ttR (A.se (ttR (List.drop (Int.toNat (1 : Int)) b))))) ≤
                                      (10000000 : Nat)) &&
                                  (bytesB (A.se (ttR (A.se (ttR (List.drop (Int.toNat (1 : Int)) b))))) &&
                                    nlO
                                      (some (A.se !Option.isSome (takeT (A.se (ttR (List.drop (Int.toNat (1 : Int)) b))))))
                                      (A.se (ttR (A.se (ttR (List.drop (Int.toNat (1 : Int)) b))))))) then
                            bif
                                A.se
                                  (Option.isSome (numT (A.se (ttR (A.se (ttR (List.drop (Int.toNat (1 : Int)) b))))))) then
                              some
                                (X.tup
                                    [X.d cmdT
                                        (A.wrap IntKind.i64
                                            (List.getD b (Int.toNat (0 : Int)) (0 : Int)),
                                          A.se (ttA (List.drop (Int.toNat (1 : Int)) b)),
                                          A.se (ttA (A.se (ttR (List.drop (Int.toNat (1 : Int)) b)))),
                                          A.se
                                            (Option.getD
                                                (numT (A.se (ttR (A.se (ttR (List.drop (Int.toNat (1 : Int)) b))))))
                                                ((0 : Int), (0 : Int), (0 : Int), [])).fst,
                                          A.se
                                            (Option.getD
                                                  (numT (A.se (ttR (A.se (ttR (List.drop (Int.toNat (1 : Int)) b))))))
                                                  ((0 : Int), (0 : Int), (0 : Int), [])).snd.fst,
                                          A.se
                                            (Option.getD
                                                    (numT (A.se (ttR (A.se (ttR (List.drop (Int.toNat (1 : Int)) b))))))
                                                    ((0 : Int), (0 : Int), (0 : Int), [])).snd.snd.fst,
                                          ()),
                                      X.sl (Ty.int IntKind.u8)
                                        (A.se
                                          (Option.getD (numT (A.se (ttR (A.se (ttR (List.drop (Int.toNat (1 : Int)) b))))))
                                                  ((0 : Int), (0 : Int), (0 : Int), [])).snd.snd.snd)
                                        (some false) false,
                                      X.d Ty.bool true],
                                  [(Ty.struct
                                        (Ty.prod (Ty.int IntKind.i64)
                                          (Ty.prod (Ty.slice (Ty.int IntKind.u8))
                                            (Ty.prod (Ty.slice (Ty.int IntKind.u8))
                                              (Ty.prod (Ty.int IntKind.i64)
                                                (Ty.prod (Ty.int IntKind.u64) (Ty.prod (Ty.int IntKind.i64) Ty.unit)))))),
                                      X.d cmdT
                                        (A.wrap IntKind.i64
                                            (List.getD b (Int.toNat (0 : Int)) (0 : Int)),
                                          A.se (ttA (List.drop (Int.toNat (1 : Int)) b)),
                                          A.se (ttA (A.se (ttR (List.drop (Int.toNat (1 : Int)) b)))),
                                          A.se
                                            (Option.getD
                                                (numT (A.se (ttR (A.se (ttR (List.drop (Int.toNat (1 : Int)) b))))))
                                                ((0 : Int), (0 : Int), (0 : Int), [])).fst,
                                          A.se
                                            (Option.getD
                                                  (numT (A.se (ttR (A.se (ttR (List.drop (Int.toNat (1 : Int)) b))))))
                                                  ((0 : Int), (0 : Int), (0 : Int), [])).snd.fst,
                                          A.se
                                            (Option.getD
                                                    (numT (A.se (ttR (A.se (ttR (List.drop (Int.toNat (1 : Int)) b))))))
                                                    ((0 : Int), (0 : Int), (0 : Int), [])).snd.snd.fst,
                                          ())),
                                    (Ty.struct
                                        (Ty.prod (Ty.int IntKind.i64)
                                          (Ty.prod (Ty.slice (Ty.int IntKind.u8))
                                            (Ty.prod (Ty.slice (Ty.int IntKind.u8))
                                              (Ty.prod (Ty.int IntKind.i64)
                                                (Ty.prod (Ty.int IntKind.u64) (Ty.prod (Ty.int IntKind.i64) Ty.unit)))))),
                                      X.agg
                                        [X.d (Ty.int IntKind.i64)
                                            (A.wrap IntKind.i64
                                              (List.getD b (Int.toNat (0 : Int)) (0 : Int))),
                                          X.sl (Ty.int IntKind.u8) (A.se (ttA (List.drop (Int.toNat (1 : Int)) b)))
                                            (some (A.se !Option.isSome (takeT (List.drop (Int.toNat (1 : Int)) b)))) false,
                                          X.sl (Ty.int IntKind.u8)
                                            (A.se (ttA (A.se (ttR (List.drop (Int.toNat (1 : Int)) b)))))
                                            (some
                                              (A.se
                                                !Option.isSome (takeT (A.se (ttR (List.drop (Int.toNat (1 : Int)) b))))))
                                            false,
                                          X.d (Ty.int IntKind.i64) (0 : Int), X.d (Ty.int IntKind.u64) (0 : Int),
                                          X.d (Ty.int IntKind.i64) (0 : Int)])])
                            else
                              some
                                (X.tup
                                    [X.d cmdT ((0 : Int), [], [], (0 : Int), (0 : Int), (0 : Int), ()),
                                      X.sl (Ty.int IntKind.u8) [] (some true) false, X.d Ty.bool false],
                                  [(Ty.struct
                                        (Ty.prod (Ty.int IntKind.i64)
                                          (Ty.prod (Ty.slice (Ty.int IntKind.u8))
                                            (Ty.prod (Ty.slice (Ty.int IntKind.u8))
                                              (Ty.prod (Ty.int IntKind.i64)
                                                (Ty.prod (Ty.int IntKind.u64) (Ty.prod (Ty.int IntKind.i64) Ty.unit)))))),
                                      X.d cmdT ((0 : Int), [], [], (0 : Int), (0 : Int), (0 : Int), ())),
                                    (Ty.struct
                                        (Ty.prod (Ty.int IntKind.i64)
                                          (Ty.prod (Ty.slice (Ty.int IntKind.u8))
                                            (Ty.prod (Ty.slice (Ty.int IntKind.u8))
                                              (Ty.prod (Ty.int IntKind.i64)
                                                (Ty.prod (Ty.int IntKind.u64) (Ty.prod (Ty.int IntKind.i64) Ty.unit)))))),
                                      X.agg
                                        [X.d (Ty.int IntKind.i64)
                                            (A.wrap IntKind.i64
                                              (List.getD b (Int.toNat (0 : Int)) (0 : Int))),
                                          X.sl (Ty.int IntKind.u8) (A.se (ttA (List.drop (Int.toNat (1 : Int)) b)))
                                            (some (A.se !Option.isSome (takeT (List.drop (Int.toNat (1 : Int)) b)))) false,
                                          X.sl (Ty.int IntKind.u8)
                                            (A.se (ttA (A.se (ttR (List.drop (Int.toNat (1 : Int)) b)))))
                                            (some
                                              (A.se
                                                !Option.isSome (takeT (A.se (ttR (List.drop (Int.toNat (1 : Int)) b))))))
                                            false,
                                          X.d (Ty.int IntKind.i64) (0 : Int), X.d (Ty.int IntKind.u64) (0 : Int),
                                          X.d (Ty.int IntKind.i64) (0 : Int)])])
                          else none
                        else
                          some
                            (X.tup
                                [X.d
                                    (Ty.struct
                                      (Ty.prod (Ty.int IntKind.i64)
                                        (Ty.prod (Ty.slice (Ty.int IntKind.u8))
                                          (Ty.prod (Ty.slice (Ty.int IntKind.u8))
                                            (Ty.prod (Ty.int IntKind.i64)
                                              (Ty.prod (Ty.int IntKind.u64) (Ty.prod (Ty.int IntKind.i64) Ty.unit)))))))
                                    (A.wrap IntKind.i64 (List.getD b (Int.toNat (0 : Int)) (0 : Int)),
                                      A.se (ttA (List.drop (Int.toNat (1 : Int)) b)),
                                      A.se (ttA (A.se (ttR (List.drop (Int.toNat (1 : Int)) b)))), (0 : Int), (0 : Int),
                                      (0 : Int), ()),
                                  X.sl (Ty.int IntKind.u8) (A.se (ttR (A.se (ttR (List.drop (Int.toNat (1 : Int)) b)))))
                                    (some (A.se !Option.isSome (takeT (A.se (ttR (List.drop (Int.toNat (1 : Int)) b))))))
                                    false,
                                  X.d Ty.bool
                                    (A.se (Option.isSome (takeT (A.se (ttR (List.drop (Int.toNat (1 : Int)) b))))))],
                              [(Ty.struct
                                    (Ty.prod (Ty.int IntKind.i64)
                                      (Ty.prod (Ty.slice (Ty.int IntKind.u8))
                                        (Ty.prod (Ty.slice (Ty.int IntKind.u8))
                                          (Ty.prod (Ty.int IntKind.i64)
                                            (Ty.prod (Ty.int IntKind.u64) (Ty.prod (Ty.int IntKind.i64) Ty.unit)))))),
                                  X.d
                                    (Ty.struct
                                      (Ty.prod (Ty.int IntKind.i64)
                                        (Ty.prod (Ty.slice (Ty.int IntKind.u8))
                                          (Ty.prod (Ty.slice (Ty.int IntKind.u8))
                                            (Ty.prod (Ty.int IntKind.i64)
                                              (Ty.prod (Ty.int IntKind.u64) (Ty.prod (Ty.int IntKind.i64) Ty.unit)))))))
                                    (A.wrap IntKind.i64 (List.getD b (Int.toNat (0 : Int)) (0 : Int)),
                                      A.se (ttA (List.drop (Int.toNat (1 : Int)) b)),
                                      A.se (ttA (A.se (ttR (List.drop (Int.toNat (1 : Int)) b)))), (0 : Int), (0 : Int),
                                      (0 : Int), ())),
                                (Ty.struct
                                    (Ty.prod (Ty.int IntKind.i64)
                                      (Ty.prod (Ty.slice (Ty.int IntKind.u8))
                                        (Ty.prod (Ty.slice (Ty.int IntKind.u8))
                                          (Ty.prod (Ty.int IntKind.i64)
                                            (Ty.prod (Ty.int IntKind.u64) (Ty.prod (Ty.int IntKind.i64) Ty.unit)))))),
                                  X.agg
                                    [X.d (Ty.int IntKind.i64)
                                        (A.wrap IntKind.i64
                                          (List.getD b (Int.toNat (0 : Int)) (0 : Int))),
                                      X.sl (Ty.int IntKind.u8) (A.se (ttA (List.drop (Int.toNat (1 : Int)) b)))
                                        (some (A.se !Option.isSome (takeT (List.drop (Int.toNat (1 : Int)) b)))) false,
                                      X.sl (Ty.int IntKind.u8) (A.se (ttA (A.se (ttR (List.drop (Int.toNat (1 : Int)) b)))))
                                        (some
                                          (A.se !Option.isSome (takeT (A.se (ttR (List.drop (Int.toNat (1 : Int)) b))))))
                                        false,
                                      X.d (Ty.int IntKind.i64) (0 : Int), X.d (Ty.int IntKind.u64) (0 : Int),
                                      X.d (Ty.int IntKind.i64) (0 : Int)])])
                      else
                        some
                          (X.tup
                              [X.d
                                  (Ty.struct
                                    (Ty.prod (Ty.int IntKind.i64)
                                      (Ty.prod (Ty.slice (Ty.int IntKind.u8))
                                        (Ty.prod (Ty.slice (Ty.int IntKind.u8))
                                          (Ty.prod (Ty.int IntKind.i64)
                                            (Ty.prod (Ty.int IntKind.u64) (Ty.prod (Ty.int IntKind.i64) Ty.unit)))))))
                                  (A.wrap IntKind.i64 (List.getD b (Int.toNat (0 : Int)) (0 : Int)),
                                    A.se (ttA (List.drop (Int.toNat (1 : Int)) b)),
                                    A.se (ttA (A.se (ttR (List.drop (Int.toNat (1 : Int)) b)))), (0 : Int), (0 : Int),
                                    (0 : Int), ()),
                                X.sl (Ty.int IntKind.u8) (A.se (ttR (A.se (ttR (List.drop (Int.toNat (1 : Int)) b)))))
                                  (some (A.se !Option.isSome (takeT (A.se (ttR (List.drop (Int.toNat (1 : Int)) b))))))
                                  false,
                                X.d Ty.bool
                                  (A.se (Option.isSome (takeT (A.se (ttR (List.drop (Int.toNat (1 : Int)) b))))))],
                            [(Ty.struct
                                  (Ty.prod (Ty.int IntKind.i64)
                                    (Ty.prod (Ty.slice (Ty.int IntKind.u8))
                                      (Ty.prod (Ty.slice (Ty.int IntKind.u8))
                                        (Ty.prod (Ty.int IntKind.i64)
                                          (Ty.prod (Ty.int IntKind.u64) (Ty.prod (Ty.int IntKind.i64) Ty.unit)))))),
                                X.d
                                  (Ty.struct
                                    (Ty.prod (Ty.int IntKind.i64)
                                      (Ty.prod (Ty.slice (Ty.int IntKind.u8))
                                        (Ty.prod (Ty.slice (Ty.int IntKind.u8))
                                          (Ty.prod (Ty.int IntKind.i64)
                                            (Ty.prod (Ty.int IntKind.u64) (Ty.prod (Ty.int IntKind.i64) Ty.unit)))))))
                                  (A.wrap IntKind.i64 (List.getD b (Int.toNat (0 : Int)) (0 : Int)),
                                    A.se (ttA (List.drop (Int.toNat (1 : Int)) b)),
                                    A.se (ttA (A.se (ttR (List.drop (Int.toNat (1 : Int)) b)))), (0 : Int), (0 : Int),
                                    (0 : Int), ())),
                              (Ty.struct
                                  (Ty.prod (Ty.int IntKind.i64)
                                    (Ty.prod (Ty.slice (Ty.int IntKind.u8))
                                      (Ty.prod (Ty.slice (Ty.int IntKind.u8))
                                        (Ty.prod (Ty.int IntKind.i64)
                                          (Ty.prod (Ty.int IntKind.u64) (Ty.prod (Ty.int IntKind.i64) Ty.unit)))))),
                                X.agg
                                  [X.d (Ty.int IntKind.i64)
                                      (A.wrap IntKind.i64
                                        (List.getD b (Int.toNat (0 : Int)) (0 : Int))),
                                    X.sl (Ty.int IntKind.u8) (A.se (ttA (List.drop (Int.toNat (1 : Int)) b)))
                                      (some (A.se !Option.isSome (takeT (List.drop (Int.toNat (1 : Int)) b)))) false,
                                    X.sl (Ty.int IntKind.u8) (A.se (ttA (A.se (ttR (List.drop (Int.toNat (1 : Int)) b)))))
                                      (some (A.se !Option.isSome (takeT (A.se (ttR (List.drop (Int.toNat (1 : Int)) b))))))
                                      false,
                                    X.d (Ty.int IntKind.i64) (0 : Int), X.d (Ty.int IntKind.u64) (0 : Int),
                                    X.d (Ty.int IntKind.i64) (0 : Int)])])
                    else none
                  else
                    bif A.se (Option.isSome (takeT (List.drop (Int.toNat (1 : Int)) b))) == true then
                      bif
                          A.wrap IntKind.i64 (List.getD b (Int.toNat (0 : Int)) (0 : Int)) ==
                            (5 : Int) then
                        bif
                            A.se
                              (decide (List.length (A.se (ttR (List.drop (Int.toNat (1 : Int)) b))) ≤ (10000000 : Nat)) &&
                                (bytesB (A.se (ttR (List.drop (Int.toNat (1 : Int)) b))) &&
                                  nlO (some (A.se !Option.isSome (takeT (List.drop (Int.toNat (1 : Int)) b))))
                                    (A.se (ttR (List.drop (Int.toNat (1 : Int)) b))))) then
                          bif A.se (Option.isSome (numT (A.se (ttR (List.drop (Int.toNat (1 : Int)) b))))) then
                            some
                              (X.tup
                                  [X.d cmdT
                                      (A.wrap IntKind.i64 (List.getD b (Int.toNat (0 : Int)) (0 : Int)),
                                        A.se (ttA (List.drop (Int.toNat (1 : Int)) b)), [],
                                        A.se
                                          (Option.getD (numT (A.se (ttR (List.drop (Int.toNat (1 : Int)) b))))
                                              ((0 : Int), (0 : Int), (0 : Int), [])).fst,
                                        A.se
                                          (Option.getD (numT (A.se (ttR (List.drop (Int.toNat (1 : Int)) b))))
                                                ((0 : Int), (0 : Int), (0 : Int), [])).snd.fst,
                                        A.se
                                          (Option.getD (numT (A.se (ttR (List.drop (Int.toNat (1 : Int)) b))))
                                                  ((0 : Int), (0 : Int), (0 : Int), [])).snd.snd.fst,
                                        ()),
                                    X.sl (Ty.int IntKind.u8)
                                      (A.se
                                        (Option.getD (numT (A.se (ttR (List.drop (Int.toNat (1 : Int)) b))))
                                                ((0 : Int), (0 : Int), (0 : Int), [])).snd.snd.snd)
                                      (some false) false,
                                    X.d Ty.bool true],
                                [(Ty.struct
                                      (Ty.prod (Ty.int IntKind.i64)
                                        (Ty.prod (Ty.slice (Ty.int IntKind.u8))
                                          (Ty.prod (Ty.slice (Ty.int IntKind.u8))
                                            (Ty.prod (Ty.int IntKind.i64)
                                              (Ty.prod (Ty.int IntKind.u64) (Ty.prod (Ty.int IntKind.i64) Ty.unit)))))),
                                    X.d cmdT
                                      (A.wrap IntKind.i64 (List.getD b (Int.toNat (0 : Int)) (0 : Int)),
                                        A.se (ttA (List.drop (Int.toNat (1 : Int)) b)), [],
                                        A.se
                                          (Option.getD (numT (A.se (ttR (List.drop (Int.toNat (1 : Int)) b))))
                                              ((0 : Int), (0 : Int), (0 : Int), [])).fst,
                                        A.se
                                          (Option.getD (numT (A.se (ttR (List.drop (Int.toNat (1 : Int)) b))))
                                                ((0 : Int), (0 : Int), (0 : Int), [])).snd.fst,
                                        A.se
                                          (Option.getD (numT (A.se (ttR (List.drop (Int.toNat (1 : Int)) b))))
                                                  ((0 : Int), (0 : Int), (0 : Int), [])).snd.snd.fst,
                                        ())),
                                  (Ty.struct
                                      (Ty.prod (Ty.int IntKind.i64)
                                        (Ty.prod (Ty.slice (Ty.int IntKind.u8))
                                          (Ty.prod (Ty.slice (Ty.int IntKind.u8))
                                            (Ty.prod (Ty.int IntKind.i64)
                                              (Ty.prod (Ty.int IntKind.u64) (Ty.prod (Ty.int IntKind.i64) Ty.unit)))))),
                                    X.agg
                                      [X.d (Ty.int IntKind.i64)
                                          (A.wrap IntKind.i64
                                            (List.getD b (Int.toNat (0 : Int)) (0 : Int))),
                                        X.sl (Ty.int IntKind.u8) (A.se (ttA (List.drop (Int.toNat (1 : Int)) b)))
                                          (some (A.se !Option.isSome (takeT (List.drop (Int.toNat (1 : Int)) b)))) false,
                                        X.sl (Ty.int IntKind.u8) [] none false, X.d (Ty.int IntKind.i64) (0 : Int),
                                        X.d (Ty.int IntKind.u64) (0 : Int), X.d (Ty.int IntKind.i64) (0 : Int)])])
                          else
                            some
                              (X.tup
                                  [X.d cmdT ((0 : Int), [], [], (0 : Int), (0 : Int), (0 : Int), ()),
                                    X.sl (Ty.int IntKind.u8) [] (some true) false, X.d Ty.bool false],
                                [(Ty.struct
                                      (Ty.prod (Ty.int IntKind.i64)
                                        (Ty.prod (Ty.slice (Ty.int IntKind.u8))
                                          (Ty.prod (Ty.slice (Ty.int IntKind.u8))
                                            (Ty.prod (Ty.int IntKind.i64)
                                              (Ty.prod (Ty.int IntKind.u64) (Ty.prod (Ty.int IntKind.i64) Ty.unit)))))),
                                    X.d cmdT ((0 : Int), [], [], (0 : Int), (0 : Int), (0 : Int), ())),
                                  (Ty.struct
                                      (Ty.prod (Ty.int IntKind.i64)
                                        (Ty.prod (Ty.slice (Ty.int IntKind.u8))
                                          (Ty.prod (Ty.slice (Ty.int IntKind.u8))
                                            (Ty.prod (Ty.int IntKind.i64)
                                              (Ty.prod (Ty.int IntKind.u64) (Ty.prod (Ty.int IntKind.i64) Ty.unit)))))),
                                    X.agg
                                      [X.d (Ty.int IntKind.i64)
                                          (A.wrap IntKind.i64
                                            (List.getD b (Int.toNat (0 : Int)) (0 : Int))),
                                        X.sl (Ty.int IntKind.u8) (A.se (ttA (List.drop (Int.toNat (1 : Int)) b)))
                                          (some (A.se !Option.isSome (takeT (List.drop (Int.toNat (1 : Int)) b)))) false,
                                        X.sl (Ty.int IntKind.u8) [] none false, X.d (Ty.int IntKind.i64) (0 : Int),
                                        X.d (Ty.int IntKind.u64) (0 : Int), X.d (Ty.int IntKind.i64) (0 : Int)])])
                        else none
                      else
                        some
                          (X.tup
                              [X.d
                                  (Ty.struct
                                    (Ty.prod (Ty.int IntKind.i64)
                                      (Ty.prod (Ty.slice (Ty.int IntKind.u8))
                                        (Ty.prod (Ty.slice (Ty.int IntKind.u8))
                                          (Ty.prod (Ty.int IntKind.i64)
                                            (Ty.prod (Ty.int IntKind.u64) (Ty.prod (Ty.int IntKind.i64) Ty.unit)))))))
                                  (A.wrap IntKind.i64 (List.getD b (Int.toNat (0 : Int)) (0 : Int)),
                                    A.se (ttA (List.drop (Int.toNat (1 : Int)) b)), [], (0 : Int), (0 : Int), (0 : Int),
                                    ()),
                                X.sl (Ty.int IntKind.u8) (A.se (ttR (List.drop (Int.toNat (1 : Int)) b)))
                                  (some (A.se !Option.isSome (takeT (List.drop (Int.toNat (1 : Int)) b)))) false,
                                X.d Ty.bool (A.se (Option.isSome (takeT (List.drop (Int.toNat (1 : Int)) b))))],
                            [(Ty.struct
                                  (Ty.prod (Ty.int IntKind.i64)
                                    (Ty.prod (Ty.slice (Ty.int IntKind.u8))
                                      (Ty.prod (Ty.slice (Ty.int IntKind.u8))
                                        (Ty.prod (Ty.int IntKind.i64)
                                          (Ty.prod (Ty.int IntKind.u64) (Ty.prod (Ty.int IntKind.i64) Ty.unit)))))),
                                X.d
                                  (Ty.struct
                                    (Ty.prod (Ty.int IntKind.i64)
                                      (Ty.prod (Ty.slice (Ty.int IntKind.u8))
                                        (Ty.prod (Ty.slice (Ty.int IntKind.u8))
                                          (Ty.prod (Ty.int IntKind.i64)
                                            (Ty.prod (Ty.int IntKind.u64) (Ty.prod (Ty.int IntKind.i64) Ty.unit)))))))
                                  (A.wrap IntKind.i64 (List.getD b (Int.toNat (0 : Int)) (0 : Int)),
                                    A.se (ttA (List.drop (Int.toNat (1 : Int)) b)), [], (0 : Int), (0 : Int), (0 : Int),
                                    ())),
                              (Ty.struct
                                  (Ty.prod (Ty.int IntKind.i64)
                                    (Ty.prod (Ty.slice (Ty.int IntKind.u8))
                                      (Ty.prod (Ty.slice (Ty.int IntKind.u8))
                                        (Ty.prod (Ty.int IntKind.i64)
                                          (Ty.prod (Ty.int IntKind.u64) (Ty.prod (Ty.int IntKind.i64) Ty.unit)))))),
                                X.agg
                                  [X.d (Ty.int IntKind.i64)
                                      (A.wrap IntKind.i64
                                        (List.getD b (Int.toNat (0 : Int)) (0 : Int))),
                                    X.sl (Ty.int IntKind.u8) (A.se (ttA (List.drop (Int.toNat (1 : Int)) b)))
                                      (some (A.se !Option.isSome (takeT (List.drop (Int.toNat (1 : Int)) b)))) false,
                                    X.sl (Ty.int IntKind.u8) [] none false, X.d (Ty.int IntKind.i64) (0 : Int),
                                    X.d (Ty.int IntKind.u64) (0 : Int), X.d (Ty.int IntKind.i64) (0 : Int)])])
                    else
                      some
                        (X.tup
                            [X.d
                                (Ty.struct
                                  (Ty.prod (Ty.int IntKind.i64)
                                    (Ty.prod (Ty.slice (Ty.int IntKind.u8))
                                      (Ty.prod (Ty.slice (Ty.int IntKind.u8))
                                        (Ty.prod (Ty.int IntKind.i64)
                                          (Ty.prod (Ty.int IntKind.u64) (Ty.prod (Ty.int IntKind.i64) Ty.unit)))))))
                                (A.wrap IntKind.i64 (List.getD b (Int.toNat (0 : Int)) (0 : Int)),
                                  A.se (ttA (List.drop (Int.toNat (1 : Int)) b)), [], (0 : Int), (0 : Int), (0 : Int), ()),
                              X.sl (Ty.int IntKind.u8) (A.se (ttR (List.drop (Int.toNat (1 : Int)) b)))
                                (some (A.se !Option.isSome (takeT (List.drop (Int.toNat (1 : Int)) b)))) false,
                              X.d Ty.bool (A.se (Option.isSome (takeT (List.drop (Int.toNat (1 : Int)) b))))],
                          [(Ty.struct
                                (Ty.prod (Ty.int IntKind.i64)
                                  (Ty.prod (Ty.slice (Ty.int IntKind.u8))
                                    (Ty.prod (Ty.slice (Ty.int IntKind.u8))
                                      (Ty.prod (Ty.int IntKind.i64)
                                        (Ty.prod (Ty.int IntKind.u64) (Ty.prod (Ty.int IntKind.i64) Ty.unit)))))),
                              X.d
                                (Ty.struct
                                  (Ty.prod (Ty.int IntKind.i64)
                                    (Ty.prod (Ty.slice (Ty.int IntKind.u8))
                                      (Ty.prod (Ty.slice (Ty.int IntKind.u8))
                                        (Ty.prod (Ty.int IntKind.i64)
                                          (Ty.prod (Ty.int IntKind.u64) (Ty.prod (Ty.int IntKind.i64) Ty.unit)))))))
                                (A.wrap IntKind.i64 (List.getD b (Int.toNat (0 : Int)) (0 : Int)),
                                  A.se (ttA (List.drop (Int.toNat (1 : Int)) b)), [], (0 : Int), (0 : Int), (0 : Int), ())),
                            (Ty.struct
                                (Ty.prod (Ty.int IntKind.i64)
                                  (Ty.prod (Ty.slice (Ty.int IntKind.u8))
                                    (Ty.prod (Ty.slice (Ty.int IntKind.u8))
                                      (Ty.prod (Ty.int IntKind.i64)
                                        (Ty.prod (Ty.int IntKind.u64) (Ty.prod (Ty.int IntKind.i64) Ty.unit)))))),
                              X.agg
                                [X.d (Ty.int IntKind.i64)
                                    (A.wrap IntKind.i64 (List.getD b (Int.toNat (0 : Int)) (0 : Int))),
                                  X.sl (Ty.int IntKind.u8) (A.se (ttA (List.drop (Int.toNat (1 : Int)) b)))
                                    (some (A.se !Option.isSome (takeT (List.drop (Int.toNat (1 : Int)) b)))) false,
                                  X.sl (Ty.int IntKind.u8) [] none false, X.d (Ty.int IntKind.i64) (0 : Int),
                                  X.d (Ty.int IntKind.u64) (0 : Int), X.d (Ty.int IntKind.i64) (0 : Int)])])
                else
                  bif A.se (Option.isSome (takeT (List.drop (Int.toNat (1 : Int)) b))) == true then
                    bif
                        A.wrap IntKind.i64 (List.getD b (Int.toNat (0 : Int)) (0 : Int)) ==
                          (5 : Int) then
                      bif
                          A.se
                            (decide (List.length (A.se (ttR (List.drop (Int.toNat (1 : Int)) b))) ≤ (10000000 : Nat)) &&
                              (bytesB (A.se (ttR (List.drop (Int.toNat (1 : Int)) b))) &&
                                nlO (some (A.se !Option.isSome (takeT (List.drop (Int.toNat (1 : Int)) b))))
                                  (A.se (ttR (List.drop (Int.toNat (1 : Int)) b))))) then
                        bif A.se (Option.isSome (numT (A.se (ttR (List.drop (Int.toNat (1 : Int)) b))))) then
                          some
                            (X.tup
                                [X.d cmdT
                                    (A.wrap IntKind.i64 (List.getD b (Int.toNat (0 : Int)) (0 : Int)),
                                      A.se (ttA (List.drop (Int.toNat (1 : Int)) b)), [],
                                      A.se
                                        (Option.getD (numT (A.se (ttR (List.drop (Int.toNat (1 : Int)) b))))
                                            ((0 : Int), (0 : Int), (0 : Int), [])).fst,
                                      A.se
                                        (Option.getD (numT (A.se (ttR (List.drop (Int.toNat (1 : Int)) b))))
                                              ((0 : Int), (0 : Int), (0 : Int), [])).snd.fst,
                                      A.se
                                        (Option.getD (numT (A.se (ttR (List.drop (Int.toNat (1 : Int)) b))))
                                                ((0 : Int), (0 : Int), (0 : Int), [])).snd.snd.fst,
                                      ()),
                                  X.sl (Ty.int IntKind.u8)
                                    (A.se
                                      (Option.getD (numT (A.se (ttR (List.drop (Int.toNat (1 : Int)) b))))
                                              ((0 : Int), (0 : Int), (0 : Int), [])).snd.snd.snd)
                                    (some false) false,
                                  X.d Ty.bool true],
                              [(Ty.struct
                                    (Ty.prod (Ty.int IntKind.i64)
                                      (Ty.prod (Ty.slice (Ty.int IntKind.u8))
                                        (Ty.prod (Ty.slice (Ty.int IntKind.u8))
                                          (Ty.prod (Ty.int IntKind.i64)
                                            (Ty.prod (Ty.int IntKind.u64) (Ty.prod (Ty.int IntKind.i64) Ty.unit)))))),
                                  X.d cmdT
                                    (A.wrap IntKind.i64 (List.getD b (Int.toNat (0 : Int)) (0 : Int)),
                                      A.se (ttA (List.drop (Int.toNat (1 : Int)) b)), [],
                                      A.se
                                        (Option.getD (numT (A.se (ttR (List.drop (Int.toNat (1 : Int)) b))))
                                            ((0 : Int), (0 : Int), (0 : Int), [])).fst,
                                      A.se
                                        (Option.getD (numT (A.se (ttR (List.drop (Int.toNat (1 : Int)) b))))
                                              ((0 : Int), (0 : Int), (0 : Int), [])).snd.fst,
                                      A.se
                                        (Option.getD (numT (A.se (ttR (List.drop (Int.toNat (1 : Int)) b))))
                                                ((0 : Int), (0 : Int), (0 : Int), [])).snd.snd.fst,
                                      ())),
                                (Ty.struct
                                    (Ty.prod (Ty.int IntKind.i64)
                                      (Ty.prod (Ty.slice (Ty.int IntKind.u8))
                                        (Ty.prod (Ty.slice (Ty.int IntKind.u8))
                                          (Ty.prod (Ty.int IntKind.i64)
                                            (Ty.prod (Ty.int IntKind.u64) (Ty.prod (Ty.int IntKind.i64) Ty.unit)))))),
                                  X.agg
                                    [X.d (Ty.int IntKind.i64)
                                        (A.wrap IntKind.i64
                                          (List.getD b (Int.toNat (0 : Int)) (0 : Int))),
                                      X.sl (Ty.int IntKind.u8) (A.se (ttA (List.drop (Int.toNat (1 : Int)) b)))
                                        (some (A.se !Option.isSome (takeT (List.drop (Int.toNat (1 : Int)) b)))) false,
                                      X.sl (Ty.int IntKind.u8) [] none false, X.d (Ty.int IntKind.i64) (0 : Int),
                                      X.d (Ty.int IntKind.u64) (0 : Int), X.d (Ty.int IntKind.i64) (0 : Int)])])
                        else
                          some
                            (X.tup
                                [X.d cmdT ((0 : Int), [], [], (0 : Int), (0 : Int), (0 : Int), ()),
                                  X.sl (Ty.int IntKind.u8) [] (some true) false, X.d Ty.bool false],
                              [(Ty.struct
                                    (Ty.prod (Ty.int IntKind.i64)
                                      (Ty.prod (Ty.slice (Ty.int IntKind.u8))
                                        (Ty.prod (Ty.slice (Ty.int IntKind.u8))
                                          (Ty.prod (Ty.int IntKind.i64)
                                            (Ty.prod (Ty.int IntKind.u64) (Ty.prod (Ty.int IntKind.i64) Ty.unit)))))),
                                  X.d cmdT ((0 : Int), [], [], (0 : Int), (0 : Int), (0 : Int), ())),
                                (Ty.struct
                                    (Ty.prod (Ty.int IntKind.i64)
                                      (Ty.prod (Ty.slice (Ty.int IntKind.u8))
                                        (Ty.prod (Ty.slice (Ty.int IntKind.u8))
                                          (Ty.prod (Ty.int IntKind.i64)
                                            (Ty.prod (Ty.int IntKind.u64) (Ty.prod (Ty.int IntKind.i64) Ty.unit)))))),
                                  X.agg
                                    [X.d (Ty.int IntKind.i64)
                                        (A.wrap IntKind.i64
                                          (List.getD b (Int.toNat (0 : Int)) (0 : Int))),
                                      X.sl (Ty.int IntKind.u8) (A.se (ttA (List.drop (Int.toNat (1 : Int)) b)))
                                        (some (A.se !Option.isSome (takeT (List.drop (Int.toNat (1 : Int)) b)))) false,
                                      X.sl (Ty.int IntKind.u8) [] none false, X.d (Ty.int IntKind.i64) (0 : Int),
                                      X.d (Ty.int IntKind.u64) (0 : Int), X.d (Ty.int IntKind.i64) (0 : Int)])])
                      else none
                    else
                      some
                        (X.tup
                            [X.d
                                (Ty.struct
                                  (Ty.prod (Ty.int IntKind.i64)
                                    (Ty.prod (Ty.slice (Ty.int IntKind.u8))
                                      (Ty.prod (Ty.slice (Ty.int IntKind.u8))
                                        (Ty.prod (Ty.int IntKind.i64)
                                          (Ty.prod (Ty.int IntKind.u64) (Ty.prod (Ty.int IntKind.i64) Ty.unit)))))))
                                (A.wrap IntKind.i64 (List.getD b (Int.toNat (0 : Int)) (0 : Int)),
                                  A.se (ttA (List.drop (Int.toNat (1 : Int)) b)), [], (0 : Int), (0 : Int), (0 : Int), ()),
                              X.sl (Ty.int IntKind.u8) (A.se (ttR (List.drop (Int.toNat (1 : Int)) b)))
                                (some (A.se !Option.isSome (takeT (List.drop (Int.toNat (1 : Int)) b)))) false,
                              X.d Ty.bool (A.se (Option.isSome (takeT (List.drop (Int.toNat (1 : Int)) b))))],
                          [(Ty.struct
                                (Ty.prod (Ty.int IntKind.i64)
                                  (Ty.prod (Ty.slice (Ty.int IntKind.u8))
                                    (Ty.prod (Ty.slice (Ty.int IntKind.u8))
                                      (Ty.prod (Ty.int IntKind.i64)
                                        (Ty.prod (Ty.int IntKind.u64) (Ty.prod (Ty.int IntKind.i64) Ty.unit)))))),
                              X.d
                                (Ty.struct
                                  (Ty.prod (Ty.int IntKind.i64)
                                    (Ty.prod (Ty.slice (Ty.int IntKind.u8))
                                      (Ty.prod (Ty.slice (Ty.int IntKind.u8))
                                        (Ty.prod (Ty.int IntKind.i64)
                                          (Ty.prod (Ty.int IntKind.u64) (Ty.prod (Ty.int IntKind.i64) Ty.unit)))))))
                                (A.wrap IntKind.i64 (List.getD b (Int.toNat (0 : Int)) (0 : Int)),
                                  A.se (ttA (List.drop (Int.toNat (1 : Int)) b)), [], (0 : Int), (0 : Int), (0 : Int), ())),
                            (Ty.struct
                                (Ty.prod (Ty.int IntKind.i64)
                                  (Ty.prod (Ty.slice (Ty.int IntKind.u8))
                                    (Ty.prod (Ty.slice (Ty.int IntKind.u8))
                                      (Ty.prod (Ty.int IntKind.i64)
                                        (Ty.prod (Ty.int IntKind.u64) (Ty.prod (Ty.int IntKind.i64) Ty.unit)))))),
                              X.agg
                                [X.d (Ty.int IntKind.i64)
                                    (A.wrap IntKind.i64 (List.getD b (Int.toNat (0 : Int)) (0 : Int))),
                                  X.sl (Ty.int IntKind.u8) (A.se (ttA (List.drop (Int.toNat (1 : Int)) b)))
                                    (some (A.se !Option.isSome (takeT (List.drop (Int.toNat (1 : Int)) b)))) false,
                                  X.sl (Ty.int IntKind.u8) [] none false, X.d (Ty.int IntKind.i64) (0 : Int),
                                  X.d (Ty.int IntKind.u64) (0 : Int), X.d (Ty.int IntKind.i64) (0 : Int)])])
                  else
                    some
                      (X.tup
                          [X.d
                              (Ty.struct
                                (Ty.prod (Ty.int IntKind.i64)
                                  (Ty.prod (Ty.slice (Ty.int IntKind.u8))
                                    (Ty.prod (Ty.slice (Ty.int IntKind.u8))
                                      (Ty.prod (Ty.int IntKind.i64)
                                        (Ty.prod (Ty.int IntKind.u64) (Ty.prod (Ty.int IntKind.i64) Ty.unit)))))))
                              (A.wrap IntKind.i64 (List.getD b (Int.toNat (0 : Int)) (0 : Int)),
                                A.se (ttA (List.drop (Int.toNat (1 : Int)) b)), [], (0 : Int), (0 : Int), (0 : Int), ()),
                            X.sl (Ty.int IntKind.u8) (A.se (ttR (List.drop (Int.toNat (1 : Int)) b)))
                              (some (A.se !Option.isSome (takeT (List.drop (Int.toNat (1 : Int)) b)))) false,
                            X.d Ty.bool (A.se (Option.isSome (takeT (List.drop (Int.toNat (1 : Int)) b))))],
                        [(Ty.struct
                              (Ty.prod (Ty.int IntKind.i64)
                                (Ty.prod (Ty.slice (Ty.int IntKind.u8))
                                  (Ty.prod (Ty.slice (Ty.int IntKind.u8))
                                    (Ty.prod (Ty.int IntKind.i64)
                                      (Ty.prod (Ty.int IntKind.u64) (Ty.prod (Ty.int IntKind.i64) Ty.unit)))))),
                            X.d
                              (Ty.struct
                                (Ty.prod (Ty.int IntKind.i64)
                                  (Ty.prod (Ty.slice (Ty.int IntKind.u8))
                                    (Ty.prod (Ty.slice (Ty.int IntKind.u8))
                                      (Ty.prod (Ty.int IntKind.i64)
                                        (Ty.prod (Ty.int IntKind.u64) (Ty.prod (Ty.int IntKind.i64) Ty.unit)))))))
                              (A.wrap IntKind.i64 (List.getD b (Int.toNat (0 : Int)) (0 : Int)),
                                A.se (ttA (List.drop (Int.toNat (1 : Int)) b)), [], (0 : Int), (0 : Int), (0 : Int), ())),
                          (Ty.struct
                              (Ty.prod (Ty.int IntKind.i64)
                                (Ty.prod (Ty.slice (Ty.int IntKind.u8))
                                  (Ty.prod (Ty.slice (Ty.int IntKind.u8))
                                    (Ty.prod (Ty.int IntKind.i64)
                                      (Ty.prod (Ty.int IntKind.u64) (Ty.prod (Ty.int IntKind.i64) Ty.unit)))))),
                            X.agg
                              [X.d (Ty.int IntKind.i64)
                                  (A.wrap IntKind.i64 (List.getD b (Int.toNat (0 : Int)) (0 : Int))),
                                X.sl (Ty.int IntKind.u8) (A.se (ttA (List.drop (Int.toNat (1 : Int)) b)))
                                  (some (A.se !Option.isSome (takeT (List.drop (Int.toNat (1 : Int)) b)))) false,
                                X.sl (Ty.int IntKind.u8) [] none false, X.d (Ty.int IntKind.i64) (0 : Int),
                                X.d (Ty.int IntKind.u64) (0 : Int), X.d (Ty.int IntKind.i64) (0 : Int)])])
              else none
            else
              bif
                  decide
                      (A.wrap IntKind.i64 (List.getD b (Int.toNat (0 : Int)) (0 : Int)) ≤ (5 : Int)) ==
                    true then
                bif A.wrap IntKind.i64 (List.getD b (Int.toNat (0 : Int)) (0 : Int)) == (1 : Int) then
                  bif
                      A.se
                        (decide (List.length (List.drop (Int.toNat (1 : Int)) b) ≤ (10000000 : Nat)) &&
                          (bytesB (List.drop (Int.toNat (1 : Int)) b) && nlO nl (List.drop (Int.toNat (1 : Int)) b))) then
                    bif A.se (Option.isSome (takeT (List.drop (Int.toNat (1 : Int)) b))) == true then
                      bif
                          A.wrap IntKind.i64 (List.getD b (Int.toNat (0 : Int)) (0 : Int)) ==
                            (5 : Int) then
                        bif
                            A.se
                              (decide (List.length (A.se (ttR (List.drop (Int.toNat (1 : Int)) b))) ≤ (10000000 : Nat)) &&
                                (bytesB (A.se (ttR (List.drop (Int.toNat (1 : Int)) b))) &&
                                  nlO (some (A.se !Option.isSome (takeT (List.drop (Int.toNat (1 : Int)) b))))
                                    (A.se (ttR (List.drop (Int.toNat (1 : Int)) b))))) then
                          bif A.se (Option.isSome (numT (A.se (ttR (List.drop (Int.toNat (1 : Int)) b))))) then
                            some
                              (X.tup
                                  [X.d cmdT
                                      (A.wrap IntKind.i64 (List.getD b (Int.toNat (0 : Int)) (0 : Int)),
                                        [], A.se (ttA (List.drop (Int.toNat (1 : Int)) b)),
                                        A.se
                                          (Option.getD (numT (A.se (ttR (List.drop (Int.toNat (1 : Int)) b))))
                                              ((0 : Int), (0 : Int), (0 : Int), [])).fst,
                                        A.se
                                          (Option.getD (numT (A.se (ttR (List.drop (Int.toNat (1 : Int)) b))))
                                                ((0 : Int), (0 : Int), (0 : Int), [])).snd.fst,
                                        A.se
                                          (Option.getD (numT (A.se (ttR (List.drop (Int.toNat (1 : Int)) b))))
                                                  ((0 : Int), (0 : Int), (0 : Int), [])).snd.snd.fst,
                                        ()),
                                    X.sl (Ty.int IntKind.u8)
                                      (A.se
                                        (Option.getD (numT (A.se (ttR (List.drop (Int.toNat (1 : Int)) b))))
                                                ((0 : Int), (0 : Int), (0 : Int), [])).snd.snd.snd)
                                      (some false) false,
                                    X.d Ty.bool true],
                                [(Ty.struct
                                      (Ty.prod (Ty.int IntKind.i64)
                                        (Ty.prod (Ty.slice (Ty.int IntKind.u8))
                                          (Ty.prod (Ty.slice (Ty.int IntKind.u8))
                                            (Ty.prod (Ty.int IntKind.i64)
                                              (Ty.prod (Ty.int IntKind.u64) (Ty.prod (Ty.int IntKind.i64) Ty.unit)))))),
                                    X.d cmdT
                                      (A.wrap IntKind.i64 (List.getD b (Int.toNat (0 : Int)) (0 : Int)),
                                        [], A.se (ttA (List.drop (Int.toNat (1 : Int)) b)),
                                        A.se
                                          (Option.getD (numT (A.se (ttR (List.drop (Int.toNat (1 : Int)) b))))
                                              ((0 : Int), (0 : Int), (0 : Int), [])).fst,
                                        A.se
                                          (Option.getD (numT (A.se (ttR (List.drop (Int.toNat (1 : Int)) b))))
                                                ((0 : Int), (0 : Int), (0 : Int), [])).snd.fst,
                                        A.se
                                          (Option.getD (numT (A.se (ttR (List.drop (Int.toNat (1 : Int)) b))))
                                                  ((0 : Int), (0 : Int), (0 : Int), [])).snd.snd.fst,
                                        ())),
                                  (Ty.struct
                                      (Ty.prod (Ty.int IntKind.i64)
                                        (Ty.prod (Ty.slice (Ty.int IntKind.u8))
                                          (Ty.prod (Ty.slice (Ty.int IntKind.u8))
                                            (Ty.prod (Ty.int IntKind.i64)
                                              (Ty.prod (Ty.int IntKind.u64) (Ty.prod (Ty.int IntKind.i64) Ty.unit)))))),
                                    X.agg
                                      [X.d (Ty.int IntKind.i64)
                                          (A.wrap IntKind.i64
                                            (List.getD b (Int.toNat (0 : Int)) (0 : Int))),
                                        X.sl (Ty.int IntKind.u8) [] none false,
                                        X.sl (Ty.int IntKind.u8) (A.se (ttA (List.drop (Int.toNat (1 : Int)) b)))
                                          (some (A.se !Option.isSome (takeT (List.drop (Int.toNat (1 : Int)) b)))) false,
                                        X.d (Ty.int IntKind.i64) (0 : Int), X.d (Ty.int IntKind.u64) (0 : Int),
                                        X.d (Ty.int IntKind.i64) (0 : Int)])])
                          else
                            some
                              (X.tup
                                  [X.d cmdT ((0 : Int), [], [], (0 : Int), (0 : Int), (0 : Int), ()),
                                    X.sl (Ty.int IntKind.u8) [] (some true) false, X.d Ty.bool false],
                                [(Ty.struct
                                      (Ty.prod (Ty.int IntKind.i64)
                                        (Ty.prod (Ty.slice (Ty.int IntKind.u8))
                                          (Ty.prod (Ty.slice (Ty.int IntKind.u8))
                                            (Ty.prod (Ty.int IntKind.i64)
                                              (Ty.prod (Ty.int IntKind.u64) (Ty.prod (Ty.int IntKind.i64) Ty.unit)))))),
                                    X.d cmdT ((0 : Int), [], [], (0 : Int), (0 : Int), (0 : Int), ())),
                                  (Ty.struct
                                      (Ty.prod (Ty.int IntKind.i64)
                                        (Ty.prod (Ty.slice (Ty.int IntKind.u8))
                                          (Ty.prod (Ty.slice (Ty.int IntKind.u8))
                                            (Ty.prod (Ty.int IntKind.i64)
                                              (Ty.prod (Ty.int IntKind.u64) (Ty.prod (Ty.int IntKind.i64) Ty.unit)))))),
                                    X.agg
                                      [X.d (Ty.int IntKind.i64)
                                          (A.wrap IntKind.i64
                                            (List.getD b (Int.toNat (0 : Int)) (0 : Int))),
                                        X.sl (Ty.int IntKind.u8) [] none false,
                                        X.sl (Ty.int IntKind.u8) (A.se (ttA (List.drop (Int.toNat (1 : Int)) b)))
                                          (some (A.se !Option.isSome (takeT (List.drop (Int.toNat (1 : Int)) b)))) false,
                                        X.d (Ty.int IntKind.i64) (0 : Int), X.d (Ty.int IntKind.u64) (0 : Int),
                                        X.d (Ty.int IntKind.i64) (0 : Int)])])
                        else none
                      else
                        some
                          (X.tup
                              [X.d
                                  (Ty.struct
                                    (Ty.prod (Ty.int IntKind.i64)
                                      (Ty.prod (Ty.slice (Ty.int IntKind.u8))
                                        (Ty.prod (Ty.slice (Ty.int IntKind.u8))
                                          (Ty.prod (Ty.int IntKind.i64)
                                            (Ty.prod (Ty.int IntKind.u64) (Ty.prod (Ty.int IntKind.i64) Ty.unit)))))))
                                  (A.wrap IntKind.i64 (List.getD b (Int.toNat (0 : Int)) (0 : Int)), [],
                                    A.se (ttA (List.drop (Int.toNat (1 : Int)) b)), (0 : Int), (0 : Int), (0 : Int), ()),
                                X.sl (Ty.int IntKind.u8) (A.se (ttR (List.drop (Int.toNat (1 : Int)) b)))
                                  (some (A.se !Option.isSome (takeT (List.drop (Int.toNat (1 : Int)) b)))) false,
                                X.d Ty.bool (A.se (Option.isSome (takeT (List.drop (Int.toNat (1 : Int)) b))))],
                            [(Ty.struct
                                  (Ty.prod (Ty.int IntKind.i64)
                                    (Ty.prod (Ty.slice (Ty.int IntKind.u8))
                                      (Ty.prod (Ty.slice (Ty.int IntKind.u8))
                                        (Ty.prod (Ty.int IntKind.i64)
                                          (Ty.prod (Ty.int IntKind.u64) (Ty.prod (Ty.int IntKind.i64) Ty.unit)))))),
                                X.d
                                  (Ty.struct
                                    (Ty.prod (Ty.int IntKind.i64)
                                      (Ty.prod (Ty.slice (Ty.int IntKind.u8))
                                        (Ty.prod (Ty.slice (Ty.int IntKind.u8))
                                          (Ty.prod (Ty.int IntKind.i64)
                                            (Ty.prod (Ty.int IntKind.u64) (Ty.prod (Ty.int IntKind.i64) Ty.unit)))))))
                                  (A.wrap IntKind.i64 (List.getD b (Int.toNat (0 : Int)) (0 : Int)), [],
                                    A.se (ttA (List.drop (Int.toNat (1 : Int)) b)), (0 : Int), (0 : Int), (0 : Int), ())),
                              (Ty.struct
                                  (Ty.prod (Ty.int IntKind.i64)
                                    (Ty.prod (Ty.slice (Ty.int IntKind.u8))
                                      (Ty.prod (Ty.slice (Ty.int IntKind.u8))
                                        (Ty.prod (Ty.int IntKind.i64)
                                          (Ty.prod (Ty.int IntKind.u64) (Ty.prod (Ty.int IntKind.i64) Ty.unit)))))),
                                X.agg
                                  [X.d (Ty.int IntKind.i64)
                                      (A.wrap IntKind.i64
                                        (List.getD b (Int.toNat (0 : Int)) (0 : Int))),
                                    X.sl (Ty.int IntKind.u8) [] none false,
                                    X.sl (Ty.int IntKind.u8) (A.se (ttA (List.drop (Int.toNat (1 : Int)) b)))
                                      (some (A.se !Option.isSome (takeT (List.drop (Int.toNat (1 : Int)) b)))) false,
                                    X.d (Ty.int IntKind.i64) (0 : Int), X.d (Ty.int IntKind.u64) (0 : Int),
                                    X.d (Ty.int IntKind.i64) (0 : Int)])])
                    else
                      some
                        (X.tup
                            [X.d
                                (Ty.struct
                                  (Ty.prod (Ty.int IntKind.i64)
                                    (Ty.prod (Ty.slice (Ty.int IntKind.u8))
                                      (Ty.prod (Ty.slice (Ty.int IntKind.u8))
                                        (Ty.prod (Ty.int IntKind.i64)
                                          (Ty.prod (Ty.int IntKind.u64) (Ty.prod (Ty.int IntKind.i64) Ty.unit)))))))
                                (A.wrap IntKind.i64 (List.getD b (Int.toNat (0 : Int)) (0 : Int)), [],
                                  A.se (ttA (List.drop (Int.toNat (1 : Int)) b)), (0 : Int), (0 : Int), (0 : Int), ()),
                              X.sl (Ty.int IntKind.u8) (A.se (ttR (List.drop (Int.toNat (1 : Int)) b)))
                                (some (A.se !Option.isSome (takeT (List.drop (Int.toNat (1 : Int)) b)))) false,
                              X.d Ty.bool (A.se (Option.isSome (takeT (List.drop (Int.toNat (1 : Int)) b))))],
                          [(Ty.struct
                                (Ty.prod (Ty.int IntKind.i64)
                                  (Ty.prod (Ty.slice (Ty.int IntKind.u8))
                                    (Ty.prod (Ty.slice (Ty.int IntKind.u8))
                                      (Ty.prod (Ty.int IntKind.i64)
                                        (Ty.prod (Ty.int IntKind.u64) (Ty.prod (Ty.int IntKind.i64) Ty.unit)))))),
                              X.d
                                (Ty.struct
                                  (Ty.prod (Ty.int IntKind.i64)
                                    (Ty.prod (Ty.slice (Ty.int IntKind.u8))
                                      (Ty.prod (Ty.slice (Ty.int IntKind.u8))
                                        (Ty.prod (Ty.int IntKind.i64)
                                          (Ty.prod (Ty.int IntKind.u64) (Ty.prod (Ty.int IntKind.i64) Ty.unit)))))))
                                (A.wrap IntKind.i64 (List.getD b (Int.toNat (0 : Int)) (0 : Int)), [],
                                  A.se (ttA (List.drop (Int.toNat (1 : Int)) b)), (0 : Int), (0 : Int), (0 : Int), ())),
                            (Ty.struct
                                (Ty.prod (Ty.int IntKind.i64)
                                  (Ty.prod (Ty.slice (Ty.int IntKind.u8))
                                    (Ty.prod (Ty.slice (Ty.int IntKind.u8))
                                      (Ty.prod (Ty.int IntKind.i64)
                                        (Ty.prod (Ty.int IntKind.u64) (Ty.prod (Ty.int IntKind.i64) Ty.unit)))))),
                              X.agg
                                [X.d (Ty.int IntKind.i64)
                                    (A.wrap IntKind.i64 (List.getD b (Int.toNat (0 : Int)) (0 : Int))),
                                  X.sl (Ty.int IntKind.u8) [] none false,
                                  X.sl (Ty.int IntKind.u8) (A.se (ttA (List.drop (Int.toNat (1 : Int)) b)))
                                    (some (A.se !Option.isSome (takeT (List.drop (Int.toNat (1 : Int)) b)))) false,
                                  X.d (Ty.int IntKind.i64) (0 : Int), X.d (Ty.int IntKind.u64) (0 : Int),
                                  X.d (Ty.int IntKind.i64) (0 : Int)])])
                  else none
                else
                  bif
                      decide
                          (A.wrap IntKind.i64 (List.getD b (Int.toNat (0 : Int)) (0 : Int)) ≤
                            (5 : Int)) ==
                        true then
                    bif
                        A.wrap IntKind.i64 (List.getD b (Int.toNat (0 : Int)) (0 : Int)) ==
                          (5 : Int) then
                      bif
                          A.se
                            (decide (List.length (List.drop (Int.toNat (1 : Int)) b) ≤ (10000000 : Nat)) &&
                              (bytesB (List.drop (Int.toNat (1 : Int)) b) &&
                                nlO nl (List.drop (Int.toNat (1 : Int)) b))) then
                        bif A.se (Option.isSome (numT (List.drop (Int.toNat (1 : Int)) b))) then
                          some
                            (X.tup
                                [X.d cmdT
                                    (A.wrap IntKind.i64 (List.getD b (Int.toNat (0 : Int)) (0 : Int)),
                                      [], [],
                                      A.se
                                        (Option.getD (numT (List.drop (Int.toNat (1 : Int)) b))
                                            ((0 : Int), (0 : Int), (0 : Int), [])).fst,
                                      A.se
                                        (Option.getD (numT (List.drop (Int.toNat (1 : Int)) b))
                                              ((0 : Int), (0 : Int), (0 : Int), [])).snd.fst,
                                      A.se
                                        (Option.getD (numT (List.drop (Int.toNat (1 : Int)) b))
                                                ((0 : Int), (0 : Int), (0 : Int), [])).snd.snd.fst,
                                      ()),
                                  X.sl (Ty.int IntKind.u8)
                                    (A.se
                                      (Option.getD (numT (List.drop (Int.toNat (1 : Int)) b))
                                              ((0 : Int), (0 : Int), (0 : Int), [])).snd.snd.snd)
                                    (some false) false,
                                  X.d Ty.bool true],
                              [(Ty.struct
                                    (Ty.prod (Ty.int IntKind.i64)
                                      (Ty.prod (Ty.slice (Ty.int IntKind.u8))
                                        (Ty.prod (Ty.slice (Ty.int IntKind.u8))
                                          (Ty.prod (Ty.int IntKind.i64)
                                            (Ty.prod (Ty.int IntKind.u64) (Ty.prod (Ty.int IntKind.i64) Ty.unit)))))),
                                  X.d cmdT
                                    (A.wrap IntKind.i64 (List.getD b (Int.toNat (0 : Int)) (0 : Int)),
                                      [], [],
                                      A.se
                                        (Option.getD (numT (List.drop (Int.toNat (1 : Int)) b))
                                            ((0 : Int), (0 : Int), (0 : Int), [])).fst,
                                      A.se
                                        (Option.getD (numT (List.drop (Int.toNat (1 : Int)) b))
                                              ((0 : Int), (0 : Int), (0 : Int), [])).snd.fst,
                                      A.se
                                        (Option.getD (numT (List.drop (Int.toNat (1 : Int)) b))
                                                ((0 : Int), (0 : Int), (0 : Int), [])).snd.snd.fst,
                                      ())),
                                (Ty.struct
                                    (Ty.prod (Ty.int IntKind.i64)
                                      (Ty.prod (Ty.slice (Ty.int IntKind.u8))
                                        (Ty.prod (Ty.slice (Ty.int IntKind.u8))
                                          (Ty.prod (Ty.int IntKind.i64)
                                            (Ty.prod (Ty.int IntKind.u64) (Ty.prod (Ty.int IntKind.i64) Ty.unit)))))),
                                  X.d
                                    (Ty.struct
                                      (Ty.prod (Ty.int IntKind.i64)
                                        (Ty.prod (Ty.slice (Ty.int IntKind.u8))
                                          (Ty.prod (Ty.slice (Ty.int IntKind.u8))
                                            (Ty.prod (Ty.int IntKind.i64)
                                              (Ty.prod (Ty.int IntKind.u64) (Ty.prod (Ty.int IntKind.i64) Ty.unit)))))))
                                    (A.wrap IntKind.i64 (List.getD b (Int.toNat (0 : Int)) (0 : Int)),
                                      [], [], (0 : Int), (0 : Int), (0 : Int), ()))])
                        else
                          some
                            (X.tup
                                [X.d cmdT ((0 : Int), [], [], (0 : Int), (0 : Int), (0 : Int), ()),
                                  X.sl (Ty.int IntKind.u8) [] (some true) false, X.d Ty.bool false],
                              [(Ty.struct
                                    (Ty.prod (Ty.int IntKind.i64)
                                      (Ty.prod (Ty.slice (Ty.int IntKind.u8))
                                        (Ty.prod (Ty.slice (Ty.int IntKind.u8))
                                          (Ty.prod (Ty.int IntKind.i64)
                                            (Ty.prod (Ty.int IntKind.u64) (Ty.prod (Ty.int IntKind.i64) Ty.unit)))))),
                                  X.d cmdT ((0 : Int), [], [], (0 : Int), (0 : Int), (0 : Int), ())),
                                (Ty.struct
                                    (Ty.prod (Ty.int IntKind.i64)
                                      (Ty.prod (Ty.slice (Ty.int IntKind.u8))
                                        (Ty.prod (Ty.slice (Ty.int IntKind.u8))
                                          (Ty.prod (Ty.int IntKind.i64)
                                            (Ty.prod (Ty.int IntKind.u64) (Ty.prod (Ty.int IntKind.i64) Ty.unit)))))),
                                  X.d
                                    (Ty.struct
                                      (Ty.prod (Ty.int IntKind.i64)
                                        (Ty.prod (Ty.slice (Ty.int IntKind.u8))
                                          (Ty.prod (Ty.slice (Ty.int IntKind.u8))
                                            (Ty.prod (Ty.int IntKind.i64)
                                              (Ty.prod (Ty.int IntKind.u64) (Ty.prod (Ty.int IntKind.i64) Ty.unit)))))))
                                    (A.wrap IntKind.i64 (List.getD b (Int.toNat (0 : Int)) (0 : Int)),
                                      [], [], (0 : Int), (0 : Int), (0 : Int), ()))])
                      else none
                    else
                      some
                        (X.tup
                            [X.d
                                (Ty.struct
                                  (Ty.prod (Ty.int IntKind.i64)
                                    (Ty.prod (Ty.slice (Ty.int IntKind.u8))
                                      (Ty.prod (Ty.slice (Ty.int IntKind.u8))
                                        (Ty.prod (Ty.int IntKind.i64)
                                          (Ty.prod (Ty.int IntKind.u64) (Ty.prod (Ty.int IntKind.i64) Ty.unit)))))))
                                (A.wrap IntKind.i64 (List.getD b (Int.toNat (0 : Int)) (0 : Int)), [],
                                  [], (0 : Int), (0 : Int), (0 : Int), ()),
                              X.sl (Ty.int IntKind.u8) (List.drop (Int.toNat (1 : Int)) b) nl false,
                              X.d Ty.bool
                                (decide
                                  (A.wrap IntKind.i64 (List.getD b (Int.toNat (0 : Int)) (0 : Int)) ≤
                                    (5 : Int)))],
                          [(Ty.struct
                                (Ty.prod (Ty.int IntKind.i64)
                                  (Ty.prod (Ty.slice (Ty.int IntKind.u8))
                                    (Ty.prod (Ty.slice (Ty.int IntKind.u8))
                                      (Ty.prod (Ty.int IntKind.i64)
                                        (Ty.prod (Ty.int IntKind.u64) (Ty.prod (Ty.int IntKind.i64) Ty.unit)))))),
                              X.d
                                (Ty.struct
                                  (Ty.prod (Ty.int IntKind.i64)
                                    (Ty.prod (Ty.slice (Ty.int IntKind.u8))
                                      (Ty.prod (Ty.slice (Ty.int IntKind.u8))
                                        (Ty.prod (Ty.int IntKind.i64)
                                          (Ty.prod (Ty.int IntKind.u64) (Ty.prod (Ty.int IntKind.i64) Ty.unit)))))))
                                (A.wrap IntKind.i64 (List.getD b (Int.toNat (0 : Int)) (0 : Int)), [],
                                  [], (0 : Int), (0 : Int), (0 : Int), ())),
                            (Ty.struct
                                (Ty.prod (Ty.int IntKind.i64)
                                  (Ty.prod (Ty.slice (Ty.int IntKind.u8))
                                    (Ty.prod (Ty.slice (Ty.int IntKind.u8))
                                      (Ty.prod (Ty.int IntKind.i64)
                                        (Ty.prod (Ty.int IntKind.u64) (Ty.prod (Ty.int IntKind.i64) Ty.unit)))))),
                              X.d
                                (Ty.struct
                                  (Ty.prod (Ty.int IntKind.i64)
                                    (Ty.prod (Ty.slice (Ty.int IntKind.u8))
                                      (Ty.prod (Ty.slice (Ty.int IntKind.u8))
                                        (Ty.prod (Ty.int IntKind.i64)
                                          (Ty.prod (Ty.int IntKind.u64) (Ty.prod (Ty.int IntKind.i64) Ty.unit)))))))
                                (A.wrap IntKind.i64 (List.getD b (Int.toNat (0 : Int)) (0 : Int)), [],
                                  [], (0 : Int), (0 : Int), (0 : Int), ()))])
                  else
                    some
                      (X.tup
                          [X.d
                              (Ty.struct
                                (Ty.prod (Ty.int IntKind.i64)
                                  (Ty.prod (Ty.slice (Ty.int IntKind.u8))
                                    (Ty.prod (Ty.slice (Ty.int IntKind.u8))
                                      (Ty.prod (Ty.int IntKind.i64)
                                        (Ty.prod (Ty.int IntKind.u64) (Ty.prod (Ty.int IntKind.i64) Ty.unit)))))))
                              (A.wrap IntKind.i64 (List.getD b (Int.toNat (0 : Int)) (0 : Int)), [], [],
                                (0 : Int), (0 : Int), (0 : Int), ()),
                            X.sl (Ty.int IntKind.u8) (List.drop (Int.toNat (1 : Int)) b) nl false,
                            X.d Ty.bool
                              (decide
                                (A.wrap IntKind.i64 (List.getD b (Int.toNat (0 : Int)) (0 : Int)) ≤
                                  (5 : Int)))],
                        [(Ty.struct
                              (Ty.prod (Ty.int IntKind.i64)
                                (Ty.prod (Ty.slice (Ty.int IntKind.u8))
                                  (Ty.prod (Ty.slice (Ty.int IntKind.u8))
                                    (Ty.prod (Ty.int IntKind.i64)
                                      (Ty.prod (Ty.int IntKind.u64) (Ty.prod (Ty.int IntKind.i64) Ty.unit)))))),
                            X.d
                              (Ty.struct
                                (Ty.prod (Ty.int IntKind.i64)
                                  (Ty.prod (Ty.slice (Ty.int IntKind.u8))
                                    (Ty.prod (Ty.slice (Ty.int IntKind.u8))
                                      (Ty.prod (Ty.int IntKind.i64)
                                        (Ty.prod (Ty.int IntKind.u64) (Ty.prod (Ty.int IntKind.i64) Ty.unit)))))))
                              (A.wrap IntKind.i64 (List.getD b (Int.toNat (0 : Int)) (0 : Int)), [], [],
                                (0 : Int), (0 : Int), (0 : Int), ())),
                          (Ty.struct
                              (Ty.prod (Ty.int IntKind.i64)
                                (Ty.prod (Ty.slice (Ty.int IntKind.u8))
                                  (Ty.prod (Ty.slice (Ty.int IntKind.u8))
                                    (Ty.prod (Ty.int IntKind.i64)
                                      (Ty.prod (Ty.int IntKind.u64) (Ty.prod (Ty.int IntKind.i64) Ty.unit)))))),
                            X.d
                              (Ty.struct
                                (Ty.prod (Ty.int IntKind.i64)
                                  (Ty.prod (Ty.slice (Ty.int IntKind.u8))
                                    (Ty.prod (Ty.slice (Ty.int IntKind.u8))
                                      (Ty.prod (Ty.int IntKind.i64)
                                        (Ty.prod (Ty.int IntKind.u64) (Ty.prod (Ty.int IntKind.i64) Ty.unit)))))))
                              (A.wrap IntKind.i64 (List.getD b (Int.toNat (0 : Int)) (0 : Int)), [], [],
                                (0 : Int), (0 : Int), (0 : Int), ()))])
              else
                bif
                    decide
                        (A.wrap IntKind.i64 (List.getD b (Int.toNat (0 : Int)) (0 : Int)) ≤
                          (5 : Int)) ==
                      true then
                  bif A.wrap IntKind.i64 (List.getD b (Int.toNat (0 : Int)) (0 : Int)) == (5 : Int) then
                    bif
                        A.se
                          (decide (List.length (List.drop (Int.toNat (1 : Int)) b) ≤ (10000000 : Nat)) &&
                            (bytesB (List.drop (Int.toNat (1 : Int)) b) && nlO nl (List.drop (Int.toNat (1 : Int)) b))) then
                      bif A.se (Option.isSome (numT (List.drop (Int.toNat (1 : Int)) b))) then
                        some
                          (X.tup
                              [X.d cmdT
                                  (A.wrap IntKind.i64 (List.getD b (Int.toNat (0 : Int)) (0 : Int)), [],
                                    [],
                                    A.se
                                      (Option.getD (numT (List.drop (Int.toNat (1 : Int)) b))
                                          ((0 : Int), (0 : Int), (0 : Int), [])).fst,
                                    A.se
                                      (Option.getD (numT (List.drop (Int.toNat (1 : Int)) b))
                                            ((0 : Int), (0 : Int), (0 : Int), [])).snd.fst,
                                    A.se
                                      (Option.getD (numT (List.drop (Int.toNat (1 : Int)) b))
                                              ((0 : Int), (0 : Int), (0 : Int), [])).snd.snd.fst,
                                    ()),
                                X.sl (Ty.int IntKind.u8)
                                  (A.se
                                    (Option.getD (numT (List.drop (Int.toNat (1 : Int)) b))
                                            ((0 : Int), (0 : Int), (0 : Int), [])).snd.snd.snd)
                                  (some false) false,
                                X.d Ty.bool true],
                            [(Ty.struct
                                  (Ty.prod (Ty.int IntKind.i64)
                                    (Ty.prod (Ty.slice (Ty.int IntKind.u8))
                                      (Ty.prod (Ty.slice (Ty.int IntKind.u8))
                                        (Ty.prod (Ty.int IntKind.i64)
                                          (Ty.prod (Ty.int IntKind.u64) (Ty.prod (Ty.int IntKind.i64) Ty.unit)))))),
                                X.d cmdT
                                  (A.wrap IntKind.i64 (List.getD b (Int.toNat (0 : Int)) (0 : Int)), [],
                                    [],
                                    A.se
                                      (Option.getD (numT (List.drop (Int.toNat (1 : Int)) b))
                                          ((0 : Int), (0 : Int), (0 : Int), [])).fst,
                                    A.se
                                      (Option.getD (numT (List.drop (Int.toNat (1 : Int)) b))
                                            ((0 : Int), (0 : Int), (0 : Int), [])).snd.fst,
                                    A.se
                                      (Option.getD (numT (List.drop (Int.toNat (1 : Int)) b))
                                              ((0 : Int), (0 : Int), (0 : Int), [])).snd.snd.fst,
                                    ())),
                              (Ty.struct
                                  (Ty.prod (Ty.int IntKind.i64)
                                    (Ty.prod (Ty.slice (Ty.int IntKind.u8))
                                      (Ty.prod (Ty.slice (Ty.int IntKind.u8))
                                        (Ty.prod (Ty.int IntKind.i64)
                                          (Ty.prod (Ty.int IntKind.u64) (Ty.prod (Ty.int IntKind.i64) Ty.unit)))))),
                                X.d
                                  (Ty.struct
                                    (Ty.prod (Ty.int IntKind.i64)
                                      (Ty.prod (Ty.slice (Ty.int IntKind.u8))
                                        (Ty.prod (Ty.slice (Ty.int IntKind.u8))
                                          (Ty.prod (Ty.int IntKind.i64)
                                            (Ty.prod (Ty.int IntKind.u64) (Ty.prod (Ty.int IntKind.i64) Ty.unit)))))))
                                  (A.wrap IntKind.i64 (List.getD b (Int.toNat (0 : Int)) (0 : Int)), [],
                                    [], (0 : Int), (0 : Int), (0 : Int), ()))])
                      else
                        some
                          (X.tup
                              [X.d cmdT ((0 : Int), [], [], (0 : Int), (0 : Int), (0 : Int), ()),
                                X.sl (Ty.int IntKind.u8) [] (some true) false, X.d Ty.bool false],
                            [(Ty.struct
                                  (Ty.prod (Ty.int IntKind.i64)
                                    (Ty.prod (Ty.slice (Ty.int IntKind.u8))
                                      (Ty.prod (Ty.slice (Ty.int IntKind.u8))
                                        (Ty.prod (Ty.int IntKind.i64)
                                          (Ty.prod (Ty.int IntKind.u64) (Ty.prod (Ty.int IntKind.i64) Ty.unit)))))),
                                X.d cmdT ((0 : Int), [], [], (0 : Int), (0 : Int), (0 : Int), ())),
                              (Ty.struct
                                  (Ty.prod (Ty.int IntKind.i64)
                                    (Ty.prod (Ty.slice (Ty.int IntKind.u8))
                                      (Ty.prod (Ty.slice (Ty.int IntKind.u8))
                                        (Ty.prod (Ty.int IntKind.i64)
                                          (Ty.prod (Ty.int IntKind.u64) (Ty.prod (Ty.int IntKind.i64) Ty.unit)))))),
                                X.d
                                  (Ty.struct
                                    (Ty.prod (Ty.int IntKind.i64)
                                      (Ty.prod (Ty.slice (Ty.int IntKind.u8))
                                        (Ty.prod (Ty.slice (Ty.int IntKind.u8))
                                          (Ty.prod (Ty.int IntKind.i64)
                                            (Ty.prod (Ty.int IntKind.u64) (Ty.prod (Ty.int IntKind.i64) Ty.unit)))))))
                                  (A.wrap IntKind.i64 (List.getD b (Int.toNat (0 : Int)) (0 : Int)), [],
                                    [], (0 : Int), (0 : Int), (0 : Int), ()))])
                    else none
                  else
                    some
                      (X.tup
                          [X.d
                              (Ty.struct
                                (Ty.prod (Ty.int IntKind.i64)
                                  (Ty.prod (Ty.slice (Ty.int IntKind.u8))
                                    (Ty.prod (Ty.slice (Ty.int IntKind.u8))
                                      (Ty.prod (Ty.int IntKind.i64)
                                        (Ty.prod (Ty.int IntKind.u64) (Ty.prod (Ty.int IntKind.i64) Ty.unit)))))))
                              (A.wrap IntKind.i64 (List.getD b (Int.toNat (0 : Int)) (0 : Int)), [], [],
                                (0 : Int), (0 : Int), (0 : Int), ()),
                            X.sl (Ty.int IntKind.u8) (List.drop (Int.toNat (1 : Int)) b) nl false,
                            X.d Ty.bool
                              (decide
                                (A.wrap IntKind.i64 (List.getD b (Int.toNat (0 : Int)) (0 : Int)) ≤
                                  (5 : Int)))],
                        [(Ty.struct
                              (Ty.prod (Ty.int IntKind.i64)
                                (Ty.prod (Ty.slice (Ty.int IntKind.u8))
                                  (Ty.prod (Ty.slice (Ty.int IntKind.u8))
                                    (Ty.prod (Ty.int IntKind.i64)
                                      (Ty.prod (Ty.int IntKind.u64) (Ty.prod (Ty.int IntKind.i64) Ty.unit)))))),
                            X.d
                              (Ty.struct
                                (Ty.prod (Ty.int IntKind.i64)
                                  (Ty.prod (Ty.slice (Ty.int IntKind.u8))
                                    (Ty.prod (Ty.slice (Ty.int IntKind.u8))
                                      (Ty.prod (Ty.int IntKind.i64)
                                        (Ty.prod (Ty.int IntKind.u64) (Ty.prod (Ty.int IntKind.i64) Ty.unit)))))))
                              (A.wrap IntKind.i64 (List.getD b (Int.toNat (0 : Int)) (0 : Int)), [], [],
                                (0 : Int), (0 : Int), (0 : Int), ())),
                          (Ty.struct
                              (Ty.prod (Ty.int IntKind.i64)
                                (Ty.prod (Ty.slice (Ty.int IntKind.u8))
                                  (Ty.prod (Ty.slice (Ty.int IntKind.u8))
                                    (Ty.prod (Ty.int IntKind.i64)
                                      (Ty.prod (Ty.int IntKind.u64) (Ty.prod (Ty.int IntKind.i64) Ty.unit)))))),
                            X.d
                              (Ty.struct
                                (Ty.prod (Ty.int IntKind.i64)
                                  (Ty.prod (Ty.slice (Ty.int IntKind.u8))
                                    (Ty.prod (Ty.slice (Ty.int IntKind.u8))
                                      (Ty.prod (Ty.int IntKind.i64)
                                        (Ty.prod (Ty.int IntKind.u64) (Ty.prod (Ty.int IntKind.i64) Ty.unit)))))))
                              (A.wrap IntKind.i64 (List.getD b (Int.toNat (0 : Int)) (0 : Int)), [], [],
                                (0 : Int), (0 : Int), (0 : Int), ()))])
                else
                  some
                    (X.tup
                        [X.d
                            (Ty.struct
                              (Ty.prod (Ty.int IntKind.i64)
                                (Ty.prod (Ty.slice (Ty.int IntKind.u8))
                                  (Ty.prod (Ty.slice (Ty.int IntKind.u8))
                                    (Ty.prod (Ty.int IntKind.i64)
                                      (Ty.prod (Ty.int IntKind.u64) (Ty.prod (Ty.int IntKind.i64) Ty.unit)))))))
                            (A.wrap IntKind.i64 (List.getD b (Int.toNat (0 : Int)) (0 : Int)), [], [],
                              (0 : Int), (0 : Int), (0 : Int), ()),
                          X.sl (Ty.int IntKind.u8) (List.drop (Int.toNat (1 : Int)) b) nl false,
                          X.d Ty.bool
                            (decide
                              (A.wrap IntKind.i64 (List.getD b (Int.toNat (0 : Int)) (0 : Int)) ≤
                                (5 : Int)))],
                      [(Ty.struct
                            (Ty.prod (Ty.int IntKind.i64)
                              (Ty.prod (Ty.slice (Ty.int IntKind.u8))
                                (Ty.prod (Ty.slice (Ty.int IntKind.u8))
                                  (Ty.prod (Ty.int IntKind.i64)
                                    (Ty.prod (Ty.int IntKind.u64) (Ty.prod (Ty.int IntKind.i64) Ty.unit)))))),
                          X.d
                            (Ty.struct
                              (Ty.prod (Ty.int IntKind.i64)
                                (Ty.prod (Ty.slice (Ty.int IntKind.u8))
                                  (Ty.prod (Ty.slice (Ty.int IntKind.u8))
                                    (Ty.prod (Ty.int IntKind.i64)
                                      (Ty.prod (Ty.int IntKind.u64) (Ty.prod (Ty.int IntKind.i64) Ty.unit)))))))
                            (A.wrap IntKind.i64 (List.getD b (Int.toNat (0 : Int)) (0 : Int)), [], [],
                              (0 : Int), (0 : Int), (0 : Int), ())),
                        (Ty.struct
                            (Ty.prod (Ty.int IntKind.i64)
                              (Ty.prod (Ty.slice (Ty.int IntKind.u8))
                                (Ty.prod (Ty.slice (Ty.int IntKind.u8))
                                  (Ty.prod (Ty.int IntKind.i64)
                                    (Ty.prod (Ty.int IntKind.u64) (Ty.prod (Ty.int IntKind.i64) Ty.unit)))))),
                          X.d
                            (Ty.struct
                              (Ty.prod (Ty.int IntKind.i64)
                                (Ty.prod (Ty.slice (Ty.int IntKind.u8))
                                  (Ty.prod (Ty.slice (Ty.int IntKind.u8))
                                    (Ty.prod (Ty.int IntKind.i64)
                                      (Ty.prod (Ty.int IntKind.u64) (Ty.prod (Ty.int IntKind.i64) Ty.unit)))))))
                            (A.wrap IntKind.i64 (List.getD b (Int.toNat (0 : Int)) (0 : Int)), [], [],
                              (0 : Int), (0 : Int), (0 : Int), ()))])
          else
            bif
                decide (A.wrap IntKind.i64 (List.getD b (Int.toNat (0 : Int)) (0 : Int)) ≤ (5 : Int)) ==
                  true then
              bif A.wrap IntKind.i64 (List.getD b (Int.toNat (0 : Int)) (0 : Int)) == (1 : Int) then
                bif
                    A.se
                      (decide (List.length (List.drop (Int.toNat (1 : Int)) b) ≤ (10000000 : Nat)) &&
                        (bytesB (List.drop (Int.toNat (1 : Int)) b) && nlO nl (List.drop (Int.toNat (1 : Int)) b))) then
                  bif A.se (Option.isSome (takeT (List.drop (Int.toNat (1 : Int)) b))) == true then
                    bif
                        A.wrap IntKind.i64 (List.getD b (Int.toNat (0 : Int)) (0 : Int)) ==
                          (5 : Int) then
                      bif
                          A.se
                            (decide (List.length (A.se (ttR (List.drop (Int.toNat (1 : Int)) b))) ≤ (10000000 : Nat)) &&
                              (bytesB (A.se (ttR (List.drop (Int.toNat (1 : Int)) b))) &&
                                nlO (some (A.se !Option.isSome (takeT (List.drop (Int.toNat (1 : Int)) b))))
                                  (A.se (ttR (List.drop (Int.toNat (1 : Int)) b))))) then
                        bif A.se (Option.isSome (numT (A.se (ttR (List.drop (Int.toNat (1 : Int)) b))))) then
                          some
                            (X.tup
                                [X.d cmdT
                                    (A.wrap IntKind.i64 (List.getD b (Int.toNat (0 : Int)) (0 : Int)),
                                      [], A.se (ttA (List.drop (Int.toNat (1 : Int)) b)),
                                      A.se
                                        (Option.getD (numT (A.se (ttR (List.drop (Int.toNat (1 : Int)) b))))
                                            ((0 : Int), (0 : Int), (0 : Int), [])).fst,
                                      A.se
                                        (Option.getD (numT (A.se (ttR (List.drop (Int.toNat (1 : Int)) b))))
                                              ((0 : Int), (0 : Int), (0 : Int), [])).snd.fst,
                                      A.se
                                        (Option.getD (numT (A.se (ttR (List.drop (Int.toNat (1 : Int)) b))))
                                                ((0 : Int), (0 : Int), (0 : Int), [])).snd.snd.fst,
                                      ()),
                                  X.sl (Ty.int IntKind.u8)
                                    (A.se
                                      (Option.getD (numT (A.se (ttR (List.drop (Int.toNat (1 : Int)) b))))
                                              ((0 : Int), (0 : Int), (0 : Int), [])).snd.snd.snd)
                                    (some false) false,
                                  X.d Ty.bool true],
                              [(Ty.struct
                                    (Ty.prod (Ty.int IntKind.i64)
                                      (Ty.prod (Ty.slice (Ty.int IntKind.u8))
                                        (Ty.prod (Ty.slice (Ty.int IntKind.u8))
                                          (Ty.prod (Ty.int IntKind.i64)
                                            (Ty.prod (Ty.int IntKind.u64) (Ty.prod (Ty.int IntKind.i64) Ty.unit)))))),
                                  X.d cmdT
                                    (A.wrap IntKind.i64 (List.getD b (Int.toNat (0 : Int)) (0 : Int)),
                                      [], A.se (ttA (List.drop (Int.toNat (1 : Int)) b)),
                                      A.se
                                        (Option.getD (numT (A.se (ttR (List.drop (Int.toNat (1 : Int)) b))))
                                            ((0 : Int), (0 : Int), (0 : Int), [])).fst,
                                      A.se
                                        (Option.getD (numT (A.se (ttR (List.drop (Int.toNat (1 : Int)) b))))
                                              ((0 : Int), (0 : Int), (0 : Int), [])).snd.fst,
                                      A.se
                                        (Option.getD (numT (A.se (ttR (List.drop (Int.toNat (1 : Int)) b))))
                                                ((0 : Int), (0 : Int), (0 : Int), [])).snd.snd.fst,
                                      ())),
                                (Ty.struct
                                    (Ty.prod (Ty.int IntKind.i64)
                                      (Ty.prod (Ty.slice (Ty.int IntKind.u8))
                                        (Ty.prod (Ty.slice (Ty.int IntKind.u8))
                                          (Ty.prod (Ty.int IntKind.i64)
                                            (Ty.prod (Ty.int IntKind.u64) (Ty.prod (Ty.int IntKind.i64) Ty.unit)))))),
                                  X.agg
                                    [X.d (Ty.int IntKind.i64)
                                        (A.wrap IntKind.i64
                                          (List.getD b (Int.toNat (0 : Int)) (0 : Int))),
                                      X.sl (Ty.int IntKind.u8) [] none false,
                                      X.sl (Ty.int IntKind.u8) (A.se (ttA (List.drop (Int.toNat (1 : Int)) b)))
                                        (some (A.se !Option.isSome (takeT (List.drop (Int.toNat (1 : Int)) b)))) false,
                                      X.d (Ty.int IntKind.i64) (0 : Int), X.d (Ty.int IntKind.u64) (0 : Int),
                                      X.d (Ty.int IntKind.i64) (0 : Int)])])
                        else
                          some
                            (X.tup
                                [X.d cmdT ((0 : Int), [], [], (0 : Int), (0 : Int), (0 : Int), ()),
                                  X.sl (Ty.int IntKind.u8) [] (some true) false, X.d Ty.bool false],
                              [(Ty.struct
                                    (Ty.prod (Ty.int IntKind.i64)
                                      (Ty.prod (Ty.slice (Ty.int IntKind.u8))
                                        (Ty.prod (Ty.slice (Ty.int IntKind.u8))
                                          (Ty.prod (Ty.int IntKind.i64)
                                            (Ty.prod (Ty.int IntKind.u64) (Ty.prod (Ty.int IntKind.i64) Ty.unit)))))),
                                  X.d cmdT ((0 : Int), [], [], (0 : Int), (0 : Int), (0 : Int), ())),
                                (Ty.struct
                                    (Ty.prod (Ty.int IntKind.i64)
                                      (Ty.prod (Ty.slice (Ty.int IntKind.u8))
                                        (Ty.prod (Ty.slice (Ty.int IntKind.u8))
                                          (Ty.prod (Ty.int IntKind.i64)
                                            (Ty.prod (Ty.int IntKind.u64) (Ty.prod (Ty.int IntKind.i64) Ty.unit)))))),
                                  X.agg
                                    [X.d (Ty.int IntKind.i64)
                                        (A.wrap IntKind.i64
                                          (List.getD b (Int.toNat (0 : Int)) (0 : Int))),
                                      X.sl (Ty.int IntKind.u8) [] none false,
                                      X.sl (Ty.int IntKind.u8) (A.se (ttA (List.drop (Int.toNat (1 : Int)) b)))
                                        (some (A.se !Option.isSome (takeT (List.drop (Int.toNat (1 : Int)) b)))) false,
                                      X.d (Ty.int IntKind.i64) (0 : Int), X.d (Ty.int IntKind.u64) (0 : Int),
                                      X.d (Ty.int IntKind.i64) (0 : Int)])])
                      else none
                    else
                      some
                        (X.tup
                            [X.d
                                (Ty.struct
                                  (Ty.prod (Ty.int IntKind.i64)
                                    (Ty.prod (Ty.slice (Ty.int IntKind.u8))
                                      (Ty.prod (Ty.slice (Ty.int IntKind.u8))
                                        (Ty.prod (Ty.int IntKind.i64)
                                          (Ty.prod (Ty.int IntKind.u64) (Ty.prod (Ty.int IntKind.i64) Ty.unit)))))))
                                (A.wrap IntKind.i64 (List.getD b (Int.toNat (0 : Int)) (0 : Int)), [],
                                  A.se (ttA (List.drop (Int.toNat (1 : Int)) b)), (0 : Int), (0 : Int), (0 : Int), ()),
                              X.sl (Ty.int IntKind.u8) (A.se (ttR (List.drop (Int.toNat (1 : Int)) b)))
                                (some (A.se !Option.isSome (takeT (List.drop (Int.toNat (1 : Int)) b)))) false,
                              X.d Ty.bool (A.se (Option.isSome (takeT (List.drop (Int.toNat (1 : Int)) b))))],
                          [(Ty.struct
                                (Ty.prod (Ty.int IntKind.i64)
                                  (Ty.prod (Ty.slice (Ty.int IntKind.u8))
                                    (Ty.prod (Ty.slice (Ty.int IntKind.u8))
                                      (Ty.prod (Ty.int IntKind.i64)
                                        (Ty.prod (Ty.int IntKind.u64) (Ty.prod (Ty.int IntKind.i64) Ty.unit)))))),
                              X.d
                                (Ty.struct
                                  (Ty.prod (Ty.int IntKind.i64)
                                    (Ty.prod (Ty.slice (Ty.int IntKind.u8))
                                      (Ty.prod (Ty.slice (Ty.int IntKind.u8))
                                        (Ty.prod (Ty.int IntKind.i64)
                                          (Ty.prod (Ty.int IntKind.u64) (Ty.prod (Ty.int IntKind.i64) Ty.unit)))))))
                                (A.wrap IntKind.i64 (List.getD b (Int.toNat (0 : Int)) (0 : Int)), [],
                                  A.se (ttA (List.drop (Int.toNat (1 : Int)) b)), (0 : Int), (0 : Int), (0 : Int), ())),
                            (Ty.struct
                                (Ty.prod (Ty.int IntKind.i64)
                                  (Ty.prod (Ty.slice (Ty.int IntKind.u8))
                                    (Ty.prod (Ty.slice (Ty.int IntKind.u8))
                                      (Ty.prod (Ty.int IntKind.i64)
                                        (Ty.prod (Ty.int IntKind.u64) (Ty.prod (Ty.int IntKind.i64) Ty.unit)))))),
                              X.agg
                                [X.d (Ty.int IntKind.i64)
                                    (A.wrap IntKind.i64 (List.getD b (Int.toNat (0 : Int)) (0 : Int))),
                                  X.sl (Ty.int IntKind.u8) [] none false,
                                  X.sl (Ty.int IntKind.u8) (A.se (ttA (List.drop (Int.toNat (1 : Int)) b)))
                                    (some (A.se !Option.isSome (takeT (List.drop (Int.toNat (1 : Int)) b)))) false,
                                  X.d (Ty.int IntKind.i64) (0 : Int), X.d (Ty.int IntKind.u64) (0 : Int),
                                  X.d (Ty.int IntKind.i64) (0 : Int)])])
                  else
                    some
                      (X.tup
                          [X.d
                              (Ty.struct
                                (Ty.prod (Ty.int IntKind.i64)
                                  (Ty.prod (Ty.slice (Ty.int IntKind.u8))
                                    (Ty.prod (Ty.slice (Ty.int IntKind.u8))
                                      (Ty.prod (Ty.int IntKind.i64)
                                        (Ty.prod (Ty.int IntKind.u64) (Ty.prod (Ty.int IntKind.i64) Ty.unit)))))))
                              (A.wrap IntKind.i64 (List.getD b (Int.toNat (0 : Int)) (0 : Int)), [],
                                A.se (ttA (List.drop (Int.toNat (1 : Int)) b)), (0 : Int), (0 : Int), (0 : Int), ()),
                            X.sl (Ty.int IntKind.u8) (A.se (ttR (List.drop (Int.toNat (1 : Int)) b)))
                              (some (A.se !Option.isSome (takeT (List.drop (Int.toNat (1 : Int)) b)))) false,
                            X.d Ty.bool (A.se (Option.isSome (takeT (List.drop (Int.toNat (1 : Int)) b))))],
                        [(Ty.struct
                              (Ty.prod (Ty.int IntKind.i64)
                                (Ty.prod (Ty.slice (Ty.int IntKind.u8))
                                  (Ty.prod (Ty.slice (Ty.int IntKind.u8))
                                    (Ty.prod (Ty.int IntKind.i64)
                                      (Ty.prod (Ty.int IntKind.u64) (Ty.prod (Ty.int IntKind.i64) Ty.unit)))))),
                            X.d
                              (Ty.struct
                                (Ty.prod (Ty.int IntKind.i64)
                                  (Ty.prod (Ty.slice (Ty.int IntKind.u8))
                                    (Ty.prod (Ty.slice (Ty.int IntKind.u8))
                                      (Ty.prod (Ty.int IntKind.i64)
                                        (Ty.prod (Ty.int IntKind.u64) (Ty.prod (Ty.int IntKind.i64) Ty.unit)))))))
                              (A.wrap IntKind.i64 (List.getD b (Int.toNat (0 : Int)) (0 : Int)), [],
                                A.se (ttA (List.drop (Int.toNat (1 : Int)) b)), (0 : Int), (0 : Int), (0 : Int), ())),
                          (Ty.struct
                              (Ty.prod (Ty.int IntKind.i64)
                                (Ty.prod (Ty.slice (Ty.int IntKind.u8))
                                  (Ty.prod (Ty.slice (Ty.int IntKind.u8))
                                    (Ty.prod (Ty.int IntKind.i64)
                                      (Ty.prod (Ty.int IntKind.u64) (Ty.prod (Ty.int IntKind.i64) Ty.unit)))))),
                            X.agg
                              [X.d (Ty.int IntKind.i64)
                                  (A.wrap IntKind.i64 (List.getD b (Int.toNat (0 : Int)) (0 : Int))),
                                X.sl (Ty.int IntKind.u8) [] none false,
                                X.sl (Ty.int IntKind.u8) (A.se (ttA (List.drop (Int.toNat (1 : Int)) b)))
                                  (some (A.se !Option.isSome (takeT (List.drop (Int.toNat (1 : Int)) b)))) false,
                                X.d (Ty.int IntKind.i64) (0 : Int), X.d (Ty.int IntKind.u64) (0 : Int),
                                X.d (Ty.int IntKind.i64) (0 : Int)])])
                else none
              else
                bif
                    decide
                        (A.wrap IntKind.i64 (List.getD b (Int.toNat (0 : Int)) (0 : Int)) ≤
                          (5 : Int)) ==
                      true then
                  bif A.wrap IntKind.i64 (List.getD b (Int.toNat (0 : Int)) (0 : Int)) == (5 : Int) then
                    bif
                        A.se
                          (decide (List.length (List.drop (Int.toNat (1 : Int)) b) ≤ (10000000 : Nat)) &&
                            (bytesB (List.drop (Int.toNat (1 : Int)) b) && nlO nl (List.drop (Int.toNat (1 : Int)) b))) then
                      bif A.se (Option.isSome (numT (List.drop (Int.toNat (1 : Int)) b))) then
                        some
                          (X.tup
                              [X.d cmdT
                                  (A.wrap IntKind.i64 (List.getD b (Int.toNat (0 : Int)) (0 : Int)), [],
                                    [],
                                    A.se
                                      (Option.getD (numT (List.drop (Int.toNat (1 : Int)) b))
                                          ((0 : Int), (0 : Int), (0 : Int), [])).fst,
                                    A.se
                                      (Option.getD (numT (List.drop (Int.toNat (1 : Int)) b))
                                            ((0 : Int), (0 : Int), (0 : Int), [])).snd.fst,
                                    A.se
                                      (Option.getD (numT (List.drop (Int.toNat (1 : Int)) b))
                                              ((0 : Int), (0 : Int), (0 : Int), [])).snd.snd.fst,
                                    ()),
                                X.sl (Ty.int IntKind.u8)
                                  (A.se
                                    (Option.getD (numT (List.drop (Int.toNat (1 : Int)) b))
                                            ((0 : Int), (0 : Int), (0 : Int), [])).snd.snd.snd)
                                  (some false) false,
                                X.d Ty.bool true],
                            [(Ty.struct
                                  (Ty.prod (Ty.int IntKind.i64)
                                    (Ty.prod (Ty.slice (Ty.int IntKind.u8))
                                      (Ty.prod (Ty.slice (Ty.int IntKind.u8))
                                        (Ty.prod (Ty.int IntKind.i64)
                                          (Ty.prod (Ty.int IntKind.u64) (Ty.prod (Ty.int IntKind.i64) Ty.unit)))))),
                                X.d cmdT
                                  (A.wrap IntKind.i64 (List.getD b (Int.toNat (0 : Int)) (0 : Int)), [],
                                    [],
                                    A.se
                                      (Option.getD (numT (List.drop (Int.toNat (1 : Int)) b))
                                          ((0 : Int), (0 : Int), (0 : Int), [])).fst,
                                    A.se
                                      (Option.getD (numT (List.drop (Int.toNat (1 : Int)) b))
                                            ((0 : Int), (0 : Int), (0 : Int), [])).snd.fst,
                                    A.se
                                      (Option.getD (numT (List.drop (Int.toNat (1 : Int)) b))
                                              ((0 : Int), (0 : Int), (0 : Int), [])).snd.snd.fst,
                                    ())),
                              (Ty.struct
                                  (Ty.prod (Ty.int IntKind.i64)
                                    (Ty.prod (Ty.slice (Ty.int IntKind.u8))
                                      (Ty.prod (Ty.slice (Ty.int IntKind.u8))
                                        (Ty.prod (Ty.int IntKind.i64)
                                          (Ty.prod (Ty.int IntKind.u64) (Ty.prod (Ty.int IntKind.i64) Ty.unit)))))),
                                X.d
                                  (Ty.struct
                                    (Ty.prod (Ty.int IntKind.i64)
                                      (Ty.prod (Ty.slice (Ty.int IntKind.u8))
                                        (Ty.prod (Ty.slice (Ty.int IntKind.u8))
                                          (Ty.prod (Ty.int IntKind.i64)
                                            (Ty.prod (Ty.int IntKind.u64) (Ty.prod (Ty.int IntKind.i64) Ty.unit)))))))
                                  (A.wrap IntKind.i64 (List.getD b (Int.toNat (0 : Int)) (0 : Int)), [],
                                    [], (0 : Int), (0 : Int), (0 : Int), ()))])
                      else
                        some
                          (X.tup
                              [X.d cmdT ((0 : Int), [], [], (0 : Int), (0 : Int), (0 : Int), ()),
                                X.sl (Ty.int IntKind.u8) [] (some true) false, X.d Ty.bool false],
                            [(Ty.struct
                                  (Ty.prod (Ty.int IntKind.i64)
                                    (Ty.prod (Ty.slice (Ty.int IntKind.u8))
                                      (Ty.prod (Ty.slice (Ty.int IntKind.u8))
                                        (Ty.prod (Ty.int IntKind.i64)
                                          (Ty.prod (Ty.int IntKind.u64) (Ty.prod (Ty.int IntKind.i64) Ty.unit)))))),
                                X.d cmdT ((0 : Int), [], [], (0 : Int), (0 : Int), (0 : Int), ())),
                              (Ty.struct
                                  (Ty.prod (Ty.int IntKind.i64)
                                    (Ty.prod (Ty.slice (Ty.int IntKind.u8))
                                      (Ty.prod (Ty.slice (Ty.int IntKind.u8))
                                        (Ty.prod (Ty.int IntKind.i64)
                                          (Ty.prod (Ty.int IntKind.u64) (Ty.prod (Ty.int IntKind.i64) Ty.unit)))))),
                                X.d
                                  (Ty.struct
                                    (Ty.prod (Ty.int IntKind.i64)
                                      (Ty.prod (Ty.slice (Ty.int IntKind.u8))
                                        (Ty.prod (Ty.slice (Ty.int IntKind.u8))
                                          (Ty.prod (Ty.int IntKind.i64)
                                            (Ty.prod (Ty.int IntKind.u64) (Ty.prod (Ty.int IntKind.i64) Ty.unit)))))))
                                  (A.wrap IntKind.i64 (List.getD b (Int.toNat (0 : Int)) (0 : Int)), [],
                                    [], (0 : Int), (0 : Int), (0 : Int), ()))])
                    else none
                  else
                    some
                      (X.tup
                          [X.d
                              (Ty.struct
                                (Ty.prod (Ty.int IntKind.i64)
                                  (Ty.prod (Ty.slice (Ty.int IntKind.u8))
                                    (Ty.prod (Ty.slice (Ty.int IntKind.u8))
                                      (Ty.prod (Ty.int IntKind.i64)
                                        (Ty.prod (Ty.int IntKind.u64) (Ty.prod (Ty.int IntKind.i64) Ty.unit)))))))
                              (A.wrap IntKind.i64 (List.getD b (Int.toNat (0 : Int)) (0 : Int)), [], [],
                                (0 : Int), (0 : Int), (0 : Int), ()),
                            X.sl (Ty.int IntKind.u8) (List.drop (Int.toNat (1 : Int)) b) nl false,
                            X.d Ty.bool
                              (decide
                                (A.wrap IntKind.i64 (List.getD b (Int.toNat (0 : Int)) (0 : Int)) ≤
                                  (5 : Int)))],
                        [(Ty.struct
                              (Ty.prod (Ty.int IntKind.i64)
                                (Ty.prod (Ty.slice (Ty.int IntKind.u8))
                                  (Ty.prod (Ty.slice (Ty.int IntKind.u8))
                                    (Ty.prod (Ty.int IntKind.i64)
                                      (Ty.prod (Ty.int IntKind.u64) (Ty.prod (Ty.int IntKind.i64) Ty.unit)))))),
                            X.d
                              (Ty.struct
                                (Ty.prod (Ty.int IntKind.i64)
                                  (Ty.prod (Ty.slice (Ty.int IntKind.u8))
                                    (Ty.prod (Ty.slice (Ty.int IntKind.u8))
                                      (Ty.prod (Ty.int IntKind.i64)
                                        (Ty.prod (Ty.int IntKind.u64) (Ty.prod (Ty.int IntKind.i64) Ty.unit)))))))
                              (A.wrap IntKind.i64 (List.getD b (Int.toNat (0 : Int)) (0 : Int)), [], [],
                                (0 : Int), (0 : Int), (0 : Int), ())),
                          (Ty.struct
                              (Ty.prod (Ty.int IntKind.i64)
                                (Ty.prod (Ty.slice (Ty.int IntKind.u8))
                                  (Ty.prod (Ty.slice (Ty.int IntKind.u8))
                                    (Ty.prod (Ty.int IntKind.i64)
                                      (Ty.prod (Ty.int IntKind.u64) (Ty.prod (Ty.int IntKind.i64) Ty.unit)))))),
                            X.d
                              (Ty.struct
                                (Ty.prod (Ty.int IntKind.i64)
                                  (Ty.prod (Ty.slice (Ty.int IntKind.u8))
                                    (Ty.prod (Ty.slice (Ty.int IntKind.u8))
                                      (Ty.prod (Ty.int IntKind.i64)
                                        (Ty.prod (Ty.int IntKind.u64) (Ty.prod (Ty.int IntKind.i64) Ty.unit)))))))
                              (A.wrap IntKind.i64 (List.getD b (Int.toNat (0 : Int)) (0 : Int)), [], [],
                                (0 : Int), (0 : Int), (0 : Int), ()))])
                else
                  some
                    (X.tup
                        [X.d
                            (Ty.struct
                              (Ty.prod (Ty.int IntKind.i64)
                                (Ty.prod (Ty.slice (Ty.int IntKind.u8))
                                  (Ty.prod (Ty.slice (Ty.int IntKind.u8))
                                    (Ty.prod (Ty.int IntKind.i64)
                                      (Ty.prod (Ty.int IntKind.u64) (Ty.prod (Ty.int IntKind.i64) Ty.unit)))))))
                            (A.wrap IntKind.i64 (List.getD b (Int.toNat (0 : Int)) (0 : Int)), [], [],
                              (0 : Int), (0 : Int), (0 : Int), ()),
                          X.sl (Ty.int IntKind.u8) (List.drop (Int.toNat (1 : Int)) b) nl false,
                          X.d Ty.bool
                            (decide
                              (A.wrap IntKind.i64 (List.getD b (Int.toNat (0 : Int)) (0 : Int)) ≤
                                (5 : Int)))],
                      [(Ty.struct
                            (Ty.prod (Ty.int IntKind.i64)
                              (Ty.prod (Ty.slice (Ty.int IntKind.u8))
                                (Ty.prod (Ty.slice (Ty.int IntKind.u8))
                                  (Ty.prod (Ty.int IntKind.i64)
                                    (Ty.prod (Ty.int IntKind.u64) (Ty.prod (Ty.int IntKind.i64) Ty.unit)))))),
                          X.d
                            (Ty.struct
                              (Ty.prod (Ty.int IntKind.i64)
                                (Ty.prod (Ty.slice (Ty.int IntKind.u8))
                                  (Ty.prod (Ty.slice (Ty.int IntKind.u8))
                                    (Ty.prod (Ty.int IntKind.i64)
                                      (Ty.prod (Ty.int IntKind.u64) (Ty.prod (Ty.int IntKind.i64) Ty.unit)))))))
                            (A.wrap IntKind.i64 (List.getD b (Int.toNat (0 : Int)) (0 : Int)), [], [],
                              (0 : Int), (0 : Int), (0 : Int), ())),
                        (Ty.struct
                            (Ty.prod (Ty.int IntKind.i64)
                              (Ty.prod (Ty.slice (Ty.int IntKind.u8))
                                (Ty.prod (Ty.slice (Ty.int IntKind.u8))
                                  (Ty.prod (Ty.int IntKind.i64)
                                    (Ty.prod (Ty.int IntKind.u64) (Ty.prod (Ty.int IntKind.i64) Ty.unit)))))),
                          X.d
                            (Ty.struct
                              (Ty.prod (Ty.int IntKind.i64)
                                (Ty.prod (Ty.slice (Ty.int IntKind.u8))
                                  (Ty.prod (Ty.slice (Ty.int IntKind.u8))
                                    (Ty.prod (Ty.int IntKind.i64)
                                      (Ty.prod (Ty.int IntKind.u64) (Ty.prod (Ty.int IntKind.i64) Ty.unit)))))))
                            (A.wrap IntKind.i64 (List.getD b (Int.toNat (0 : Int)) (0 : Int)), [], [],
                              (0 : Int), (0 : Int), (0 : Int), ()))])
            else
              bif
                  decide
                      (A.wrap IntKind.i64 (List.getD b (Int.toNat (0 : Int)) (0 : Int)) ≤ (5 : Int)) ==
                    true then
                bif A.wrap IntKind.i64 (List.getD b (Int.toNat (0 : Int)) (0 : Int)) == (5 : Int) then
                  bif
                      A.se
                        (decide (List.length (List.drop (Int.toNat (1 : Int)) b) ≤ (10000000 : Nat)) &&
                          (bytesB (List.drop (Int.toNat (1 : Int)) b) && nlO nl (List.drop (Int.toNat (1 : Int)) b))) then
                    bif A.se (Option.isSome (numT (List.drop (Int.toNat (1 : Int)) b))) then
                      some
                        (X.tup
                            [X.d cmdT
                                (A.wrap IntKind.i64 (List.getD b (Int.toNat (0 : Int)) (0 : Int)), [],
                                  [],
                                  A.se
                                    (Option.getD (numT (List.drop (Int.toNat (1 : Int)) b))
                                        ((0 : Int), (0 : Int), (0 : Int), [])).fst,
                                  A.se
                                    (Option.getD (numT (List.drop (Int.toNat (1 : Int)) b))
                                          ((0 : Int), (0 : Int), (0 : Int), [])).snd.fst,
                                  A.se
                                    (Option.getD (numT (List.drop (Int.toNat (1 : Int)) b))
                                            ((0 : Int), (0 : Int), (0 : Int), [])).snd.snd.fst,
                                  ()),
                              X.sl (Ty.int IntKind.u8)
                                (A.se
                                  (Option.getD (numT (List.drop (Int.toNat (1 : Int)) b))
                                          ((0 : Int), (0 : Int), (0 : Int), [])).snd.snd.snd)
                                (some false) false,
                              X.d Ty.bool true],
                          [(Ty.struct
                                (Ty.prod (Ty.int IntKind.i64)
                                  (Ty.prod (Ty.slice (Ty.int IntKind.u8))
                                    (Ty.prod (Ty.slice (Ty.int IntKind.u8))
                                      (Ty.prod (Ty.int IntKind.i64)
                                        (Ty.prod (Ty.int IntKind.u64) (Ty.prod (Ty.int IntKind.i64) Ty.unit)))))),
                              X.d cmdT
                                (A.wrap IntKind.i64 (List.getD b (Int.toNat (0 : Int)) (0 : Int)), [],
                                  [],
                                  A.se
                                    (Option.getD (numT (List.drop (Int.toNat (1 : Int)) b))
                                        ((0 : Int), (0 : Int), (0 : Int), [])).fst,
                                  A.se
                                    (Option.getD (numT (List.drop (Int.toNat (1 : Int)) b))
                                          ((0 : Int), (0 : Int), (0 : Int), [])).snd.fst,
                                  A.se
                                    (Option.getD (numT (List.drop (Int.toNat (1 : Int)) b))
                                            ((0 : Int), (0 : Int), (0 : Int), [])).snd.snd.fst,
                                  ())),
                            (Ty.struct
                                (Ty.prod (Ty.int IntKind.i64)
                                  (Ty.prod (Ty.slice (Ty.int IntKind.u8))
                                    (Ty.prod (Ty.slice (Ty.int IntKind.u8))
                                      (Ty.prod (Ty.int IntKind.i64)
                                        (Ty.prod (Ty.int IntKind.u64) (Ty.prod (Ty.int IntKind.i64) Ty.unit)))))),
                              X.d
                                (Ty.struct
                                  (Ty.prod (Ty.int IntKind.i64)
                                    (Ty.prod (Ty.slice (Ty.int IntKind.u8))
                                      (Ty.prod (Ty.slice (Ty.int IntKind.u8))
                                        (Ty.prod (Ty.int IntKind.i64)
                                          (Ty.prod (Ty.int IntKind.u64) (Ty.prod (Ty.int IntKind.i64) Ty.unit)))))))
                                (A.wrap IntKind.i64 (List.getD b (Int.toNat (0 : Int)) (0 : Int)), [],
                                  [], (0 : Int), (0 : Int), (0 : Int), ()))])
                    else
                      some
                        (X.tup
                            [X.d cmdT ((0 : Int), [], [], (0 : Int), (0 : Int), (0 : Int), ()),
                              X.sl (Ty.int IntKind.u8) [] (some true) false, X.d Ty.bool false],
                          [(Ty.struct
                                (Ty.prod (Ty.int IntKind.i64)
                                  (Ty.prod (Ty.slice (Ty.int IntKind.u8))
                                    (Ty.prod (Ty.slice (Ty.int IntKind.u8))
                                      (Ty.prod (Ty.int IntKind.i64)
                                        (Ty.prod (Ty.int IntKind.u64) (Ty.prod (Ty.int IntKind.i64) Ty.unit)))))),
                              X.d cmdT ((0 : Int), [], [], (0 : Int), (0 : Int), (0 : Int), ())),
                            (Ty.struct
                                (Ty.prod (Ty.int IntKind.i64)
                                  (Ty.prod (Ty.slice (Ty.int IntKind.u8))
                                    (Ty.prod (Ty.slice (Ty.int IntKind.u8))
                                      (Ty.prod (Ty.int IntKind.i64)
                                        (Ty.prod (Ty.int IntKind.u64) (Ty.prod (Ty.int IntKind.i64) Ty.unit)))))),
                              X.d
                                (Ty.struct
                                  (Ty.prod (Ty.int IntKind.i64)
                                    (Ty.prod (Ty.slice (Ty.int IntKind.u8))
                                      (Ty.prod (Ty.slice (Ty.int IntKind.u8))
                                        (Ty.prod (Ty.int IntKind.i64)
                                          (Ty.prod (Ty.int IntKind.u64) (Ty.prod (Ty.int IntKind.i64) Ty.unit)))))))
                                (A.wrap IntKind.i64 (List.getD b (Int.toNat (0 : Int)) (0 : Int)), [],
                                  [], (0 : Int), (0 : Int), (0 : Int), ()))])
                  else none
                else
                  some
                    (X.tup
                        [X.d
                            (Ty.struct
                              (Ty.prod (Ty.int IntKind.i64)
                                (Ty.prod (Ty.slice (Ty.int IntKind.u8))
                                  (Ty.prod (Ty.slice (Ty.int IntKind.u8))
                                    (Ty.prod (Ty.int IntKind.i64)
                                      (Ty.prod (Ty.int IntKind.u64) (Ty.prod (Ty.int IntKind.i64) Ty.unit)))))))
                            (A.wrap IntKind.i64 (List.getD b (Int.toNat (0 : Int)) (0 : Int)), [], [],
                              (0 : Int), (0 : Int), (0 : Int), ()),
                          X.sl (Ty.int IntKind.u8) (List.drop (Int.toNat (1 : Int)) b) nl false,
                          X.d Ty.bool
                            (decide
                              (A.wrap IntKind.i64 (List.getD b (Int.toNat (0 : Int)) (0 : Int)) ≤
                                (5 : Int)))],
                      [(Ty.struct
                            (Ty.prod (Ty.int IntKind.i64)
                              (Ty.prod (Ty.slice (Ty.int IntKind.u8))
                                (Ty.prod (Ty.slice (Ty.int IntKind.u8))
                                  (Ty.prod (Ty.int IntKind.i64)
                                    (Ty.prod (Ty.int IntKind.u64) (Ty.prod (Ty.int IntKind.i64) Ty.unit)))))),
                          X.d
                            (Ty.struct
                              (Ty.prod (Ty.int IntKind.i64)
                                (Ty.prod (Ty.slice (Ty.int IntKind.u8))
                                  (Ty.prod (Ty.slice (Ty.int IntKind.u8))
                                    (Ty.prod (Ty.int IntKind.i64)
                                      (Ty.prod (Ty.int IntKind.u64) (Ty.prod (Ty.int IntKind.i64) Ty.unit)))))))
                            (A.wrap IntKind.i64 (List.getD b (Int.toNat (0 : Int)) (0 : Int)), [], [],
                              (0 : Int), (0 : Int), (0 : Int), ())),
                        (Ty.struct
                            (Ty.prod (Ty.int IntKind.i64)
                              (Ty.prod (Ty.slice (Ty.int IntKind.u8))
                                (Ty.prod (Ty.slice (Ty.int IntKind.u8))
                                  (Ty.prod (Ty.int IntKind.i64)
                                    (Ty.prod (Ty.int IntKind.u64) (Ty.prod (Ty.int IntKind.i64) Ty.unit)))))),
                          X.d
                            (Ty.struct
                              (Ty.prod (Ty.int IntKind.i64)
                                (Ty.prod (Ty.slice (Ty.int IntKind.u8))
                                  (Ty.prod (Ty.slice (Ty.int IntKind.u8))
                                    (Ty.prod (Ty.int IntKind.i64)
                                      (Ty.prod (Ty.int IntKind.u64) (Ty.prod (Ty.int IntKind.i64) Ty.unit)))))))
                            (A.wrap IntKind.i64 (List.getD b (Int.toNat (0 : Int)) (0 : Int)), [], [],
                              (0 : Int), (0 : Int), (0 : Int), ()))])
              else
                some
                  (X.tup
                      [X.d
                          (Ty.struct
                            (Ty.prod (Ty.int IntKind.i64)
                              (Ty.prod (Ty.slice (Ty.int IntKind.u8))
                                (Ty.prod (Ty.slice (Ty.int IntKind.u8))
                                  (Ty.prod (Ty.int IntKind.i64)
                                    (Ty.prod (Ty.int IntKind.u64) (Ty.prod (Ty.int IntKind.i64) Ty.unit)))))))
                          (A.wrap IntKind.i64 (List.getD b (Int.toNat (0 : Int)) (0 : Int)), [], [],
                            (0 : Int), (0 : Int), (0 : Int), ()),
                        X.sl (Ty.int IntKind.u8) (List.drop (Int.toNat (1 : Int)) b) nl false,
                        X.d Ty.bool
                          (decide
                            (A.wrap IntKind.i64 (List.getD b (Int.toNat (0 : Int)) (0 : Int)) ≤
                              (5 : Int)))],
                    [(Ty.struct
                          (Ty.prod (Ty.int IntKind.i64)
                            (Ty.prod (Ty.slice (Ty.int IntKind.u8))
                              (Ty.prod (Ty.slice (Ty.int IntKind.u8))
                                (Ty.prod (Ty.int IntKind.i64)
                                  (Ty.prod (Ty.int IntKind.u64) (Ty.prod (Ty.int IntKind.i64) Ty.unit)))))),
                        X.d
                          (Ty.struct
                            (Ty.prod (Ty.int IntKind.i64)
                              (Ty.prod (Ty.slice (Ty.int IntKind.u8))
                                (Ty.prod (Ty.slice (Ty.int IntKind.u8))
                                  (Ty.prod (Ty.int IntKind.i64)
                                    (Ty.prod (Ty.int IntKind.u64) (Ty.prod (Ty.int IntKind.i64) Ty.unit)))))))
                          (A.wrap IntKind.i64 (List.getD b (Int.toNat (0 : Int)) (0 : Int)), [], [],
                            (0 : Int), (0 : Int), (0 : Int), ())),
                      (Ty.struct
                          (Ty.prod (Ty.int IntKind.i64)
                            (Ty.prod (Ty.slice (Ty.int IntKind.u8))
                              (Ty.prod (Ty.slice (Ty.int IntKind.u8))
                                (Ty.prod (Ty.int IntKind.i64)
                                  (Ty.prod (Ty.int IntKind.u64) (Ty.prod (Ty.int IntKind.i64) Ty.unit)))))),
                        X.d
                          (Ty.struct
                            (Ty.prod (Ty.int IntKind.i64)
                              (Ty.prod (Ty.slice (Ty.int IntKind.u8))
                                (Ty.prod (Ty.slice (Ty.int IntKind.u8))
                                  (Ty.prod (Ty.int IntKind.i64)
                                    (Ty.prod (Ty.int IntKind.u64) (Ty.prod (Ty.int IntKind.i64) Ty.unit)))))))
                          (A.wrap IntKind.i64 (List.getD b (Int.toNat (0 : Int)) (0 : Int)), [], [],
                            (0 : Int), (0 : Int), (0 : Int), ()))])
        else
          some
            (X.tup
                [X.d
                    (Ty.struct
                      (Ty.prod (Ty.int IntKind.i64)
                        (Ty.prod (Ty.slice (Ty.int IntKind.u8))
                          (Ty.prod (Ty.slice (Ty.int IntKind.u8))
                            (Ty.prod (Ty.int IntKind.i64)
                              (Ty.prod (Ty.int IntKind.u64) (Ty.prod (Ty.int IntKind.i64) Ty.unit)))))))
                    (A.wrap IntKind.i64 (List.getD b (Int.toNat (0 : Int)) (0 : Int)), [], [],
                      (0 : Int), (0 : Int), (0 : Int), ()),
                  X.sl (Ty.int IntKind.u8) (List.drop (Int.toNat (1 : Int)) b) nl false, X.d Ty.bool false],
              [(Ty.struct
                    (Ty.prod (Ty.int IntKind.i64)
                      (Ty.prod (Ty.slice (Ty.int IntKind.u8))
                        (Ty.prod (Ty.slice (Ty.int IntKind.u8))
                          (Ty.prod (Ty.int IntKind.i64)
                            (Ty.prod (Ty.int IntKind.u64) (Ty.prod (Ty.int IntKind.i64) Ty.unit)))))),
                  X.d
                    (Ty.struct
                      (Ty.prod (Ty.int IntKind.i64)
                        (Ty.prod (Ty.slice (Ty.int IntKind.u8))
                          (Ty.prod (Ty.slice (Ty.int IntKind.u8))
                            (Ty.prod (Ty.int IntKind.i64)
                              (Ty.prod (Ty.int IntKind.u64) (Ty.prod (Ty.int IntKind.i64) Ty.unit)))))))
                    (A.wrap IntKind.i64 (List.getD b (Int.toNat (0 : Int)) (0 : Int)), [], [],
                      (0 : Int), (0 : Int), (0 : Int), ())),
                (Ty.struct
                    (Ty.prod (Ty.int IntKind.i64)
                      (Ty.prod (Ty.slice (Ty.int IntKind.u8))
                        (Ty.prod (Ty.slice (Ty.int IntKind.u8))
                          (Ty.prod (Ty.int IntKind.i64)
                            (Ty.prod (Ty.int IntKind.u64) (Ty.prod (Ty.int IntKind.i64) Ty.unit)))))),
                  X.d
                    (Ty.struct
                      (Ty.prod (Ty.int IntKind.i64)
                        (Ty.prod (Ty.slice (Ty.int IntKind.u8))
                          (Ty.prod (Ty.slice (Ty.int IntKind.u8))
                            (Ty.prod (Ty.int IntKind.i64)
                              (Ty.prod (Ty.int IntKind.u64) (Ty.prod (Ty.int IntKind.i64) Ty.unit)))))))
                    (A.wrap IntKind.i64 (List.getD b (Int.toNat (0 : Int)) (0 : Int)), [], [],
                      (0 : Int), (0 : Int), (0 : Int), ()))])
      else none
    else none) := by kernel_rfl
end Go.Proofs.Ytgickaihlebgmaa.V
