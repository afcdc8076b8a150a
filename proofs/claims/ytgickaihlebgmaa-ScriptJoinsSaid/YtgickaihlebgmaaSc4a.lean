/-
  Chapter 23: the functions' trees. By program; each equation is checked by the kernel.
  It speaks of the pinned program alone; no condition.
-/
import Derived.Test.YtgickaihlebgmaaSc3
namespace Go.Proofs.Ytgickaihlebgmaa.V
open Go
set_option linter.unusedVariables false

theorem tOf (A : Ar) (k : Int) : bodyX (Cx A (OviA A) noL) 100 Try.f22 [i64x k] [] =
    (bif k == (5 : Int) then
      some
        (X.tup
            [X.d (Ty.struct (Ty.prod (Ty.int IntKind.i64) (Ty.prod (Ty.int IntKind.i64) Ty.unit)))
                ((1 : Int), (3 : Int), ()),
              X.d Ty.bool true],
          [(Ty.struct (Ty.prod (Ty.int IntKind.i64) (Ty.prod (Ty.int IntKind.i64) Ty.unit)),
              X.d (Ty.struct (Ty.prod (Ty.int IntKind.i64) (Ty.prod (Ty.int IntKind.i64) Ty.unit)))
                ((1 : Int), (3 : Int), ()))])
    else
      bif k == (2 : Int) then
        some
          (X.tup
              [X.d (Ty.struct (Ty.prod (Ty.int IntKind.i64) (Ty.prod (Ty.int IntKind.i64) Ty.unit)))
                  ((1 : Int), (0 : Int), ()),
                X.d Ty.bool true],
            [(Ty.struct (Ty.prod (Ty.int IntKind.i64) (Ty.prod (Ty.int IntKind.i64) Ty.unit)),
                X.d (Ty.struct (Ty.prod (Ty.int IntKind.i64) (Ty.prod (Ty.int IntKind.i64) Ty.unit)))
                  ((1 : Int), (0 : Int), ()))])
      else
        bif k == (4 : Int) then
          some
            (X.tup
                [X.d (Ty.struct (Ty.prod (Ty.int IntKind.i64) (Ty.prod (Ty.int IntKind.i64) Ty.unit)))
                    ((1 : Int), (0 : Int), ()),
                  X.d Ty.bool true],
              [(Ty.struct (Ty.prod (Ty.int IntKind.i64) (Ty.prod (Ty.int IntKind.i64) Ty.unit)),
                  X.d (Ty.struct (Ty.prod (Ty.int IntKind.i64) (Ty.prod (Ty.int IntKind.i64) Ty.unit)))
                    ((1 : Int), (0 : Int), ()))])
        else
          bif k == (1 : Int) then
            some
              (X.tup
                  [X.d (Ty.struct (Ty.prod (Ty.int IntKind.i64) (Ty.prod (Ty.int IntKind.i64) Ty.unit)))
                      ((2 : Int), (0 : Int), ()),
                    X.d Ty.bool true],
                [(Ty.struct (Ty.prod (Ty.int IntKind.i64) (Ty.prod (Ty.int IntKind.i64) Ty.unit)),
                    X.d (Ty.struct (Ty.prod (Ty.int IntKind.i64) (Ty.prod (Ty.int IntKind.i64) Ty.unit)))
                      ((2 : Int), (0 : Int), ()))])
          else
            bif k == (3 : Int) then
              some
                (X.tup
                    [X.d (Ty.struct (Ty.prod (Ty.int IntKind.i64) (Ty.prod (Ty.int IntKind.i64) Ty.unit)))
                        ((0 : Int), (0 : Int), ()),
                      X.d Ty.bool true],
                  [(Ty.struct (Ty.prod (Ty.int IntKind.i64) (Ty.prod (Ty.int IntKind.i64) Ty.unit)),
                      X.d (Ty.struct (Ty.prod (Ty.int IntKind.i64) (Ty.prod (Ty.int IntKind.i64) Ty.unit)))
                        ((0 : Int), (0 : Int), ()))])
            else
              some
                (X.tup
                    [X.d (Ty.struct (Ty.prod (Ty.int IntKind.i64) (Ty.prod (Ty.int IntKind.i64) Ty.unit)))
                        ((0 : Int), (0 : Int), ()),
                      X.d Ty.bool false],
                  [(Ty.struct (Ty.prod (Ty.int IntKind.i64) (Ty.prod (Ty.int IntKind.i64) Ty.unit)),
                      X.d (Ty.struct (Ty.prod (Ty.int IntKind.i64) (Ty.prod (Ty.int IntKind.i64) Ty.unit)))
                        ((0 : Int), (0 : Int), ()))])) := by kernel_rfl
theorem tCheck (A : Ar) (c : Cm) : bodyX (Cx A (Oadd (OviA A) 22 (.pure (ofF A))) noL) 100 Try.f15 [cmx c] [] =
    (bif A.se (decide (c.fst = (1 : Int))) then
      bif (c.snd.snd.snd.fst == (0 : Int)) == true then
        bif (c.snd.snd.snd.snd.fst == (0 : Int)) == true then
          bif (c.snd.snd.snd.snd.snd.fst == (0 : Int)) == true then
            bif decide (c.snd.snd.snd.fst ≥ (0 : Int)) == true then
              some
                (X.d Ty.bool (decide (c.snd.snd.snd.snd.snd.fst ≥ (0 : Int))),
                  [(Ty.struct
                        (Ty.prod (Ty.int IntKind.i64)
                          (Ty.prod (Ty.slice (Ty.int IntKind.u8))
                            (Ty.prod (Ty.slice (Ty.int IntKind.u8))
                              (Ty.prod (Ty.int IntKind.i64)
                                (Ty.prod (Ty.int IntKind.u64) (Ty.prod (Ty.int IntKind.i64) Ty.unit)))))),
                      X.d cmdT c),
                    (Ty.struct (Ty.prod (Ty.int IntKind.i64) (Ty.prod (Ty.int IntKind.i64) Ty.unit)),
                      X.d shT ((2 : Int), (0 : Int), ()))])
            else
              some
                (X.d Ty.bool false,
                  [(Ty.struct
                        (Ty.prod (Ty.int IntKind.i64)
                          (Ty.prod (Ty.slice (Ty.int IntKind.u8))
                            (Ty.prod (Ty.slice (Ty.int IntKind.u8))
                              (Ty.prod (Ty.int IntKind.i64)
                                (Ty.prod (Ty.int IntKind.u64) (Ty.prod (Ty.int IntKind.i64) Ty.unit)))))),
                      X.d cmdT c),
                    (Ty.struct (Ty.prod (Ty.int IntKind.i64) (Ty.prod (Ty.int IntKind.i64) Ty.unit)),
                      X.d shT ((2 : Int), (0 : Int), ()))])
          else
            some
              (X.d Ty.bool false,
                [(Ty.struct
                      (Ty.prod (Ty.int IntKind.i64)
                        (Ty.prod (Ty.slice (Ty.int IntKind.u8))
                          (Ty.prod (Ty.slice (Ty.int IntKind.u8))
                            (Ty.prod (Ty.int IntKind.i64)
                              (Ty.prod (Ty.int IntKind.u64) (Ty.prod (Ty.int IntKind.i64) Ty.unit)))))),
                    X.d cmdT c),
                  (Ty.struct (Ty.prod (Ty.int IntKind.i64) (Ty.prod (Ty.int IntKind.i64) Ty.unit)),
                    X.d shT ((2 : Int), (0 : Int), ()))])
        else
          some
            (X.d Ty.bool false,
              [(Ty.struct
                    (Ty.prod (Ty.int IntKind.i64)
                      (Ty.prod (Ty.slice (Ty.int IntKind.u8))
                        (Ty.prod (Ty.slice (Ty.int IntKind.u8))
                          (Ty.prod (Ty.int IntKind.i64)
                            (Ty.prod (Ty.int IntKind.u64) (Ty.prod (Ty.int IntKind.i64) Ty.unit)))))),
                  X.d cmdT c),
                (Ty.struct (Ty.prod (Ty.int IntKind.i64) (Ty.prod (Ty.int IntKind.i64) Ty.unit)),
                  X.d shT ((2 : Int), (0 : Int), ()))])
      else
        some
          (X.d Ty.bool false,
            [(Ty.struct
                  (Ty.prod (Ty.int IntKind.i64)
                    (Ty.prod (Ty.slice (Ty.int IntKind.u8))
                      (Ty.prod (Ty.slice (Ty.int IntKind.u8))
                        (Ty.prod (Ty.int IntKind.i64)
                          (Ty.prod (Ty.int IntKind.u64) (Ty.prod (Ty.int IntKind.i64) Ty.unit)))))),
                X.d cmdT c),
              (Ty.struct (Ty.prod (Ty.int IntKind.i64) (Ty.prod (Ty.int IntKind.i64) Ty.unit)),
                X.d shT ((2 : Int), (0 : Int), ()))])
    else
      bif A.se (decide (c.fst = (5 : Int))) then
        bif ((↑(List.length c.snd.snd.fst) : Int) == (0 : Int)) == true then
          bif decide (c.snd.snd.snd.fst ≥ (0 : Int)) == true then
            some
              (X.d Ty.bool (decide (c.snd.snd.snd.snd.snd.fst ≥ (0 : Int))),
                [(Ty.struct
                      (Ty.prod (Ty.int IntKind.i64)
                        (Ty.prod (Ty.slice (Ty.int IntKind.u8))
                          (Ty.prod (Ty.slice (Ty.int IntKind.u8))
                            (Ty.prod (Ty.int IntKind.i64)
                              (Ty.prod (Ty.int IntKind.u64) (Ty.prod (Ty.int IntKind.i64) Ty.unit)))))),
                    X.d cmdT c),
                  (Ty.struct (Ty.prod (Ty.int IntKind.i64) (Ty.prod (Ty.int IntKind.i64) Ty.unit)),
                    X.d shT ((1 : Int), (3 : Int), ()))])
          else
            some
              (X.d Ty.bool false,
                [(Ty.struct
                      (Ty.prod (Ty.int IntKind.i64)
                        (Ty.prod (Ty.slice (Ty.int IntKind.u8))
                          (Ty.prod (Ty.slice (Ty.int IntKind.u8))
                            (Ty.prod (Ty.int IntKind.i64)
                              (Ty.prod (Ty.int IntKind.u64) (Ty.prod (Ty.int IntKind.i64) Ty.unit)))))),
                    X.d cmdT c),
                  (Ty.struct (Ty.prod (Ty.int IntKind.i64) (Ty.prod (Ty.int IntKind.i64) Ty.unit)),
                    X.d shT ((1 : Int), (3 : Int), ()))])
        else
          some
            (X.d Ty.bool false,
              [(Ty.struct
                    (Ty.prod (Ty.int IntKind.i64)
                      (Ty.prod (Ty.slice (Ty.int IntKind.u8))
                        (Ty.prod (Ty.slice (Ty.int IntKind.u8))
                          (Ty.prod (Ty.int IntKind.i64)
                            (Ty.prod (Ty.int IntKind.u64) (Ty.prod (Ty.int IntKind.i64) Ty.unit)))))),
                  X.d cmdT c),
                (Ty.struct (Ty.prod (Ty.int IntKind.i64) (Ty.prod (Ty.int IntKind.i64) Ty.unit)),
                  X.d shT ((1 : Int), (3 : Int), ()))])
      else
        bif A.se (decide (c.fst = (2 : Int) ∨ c.fst = (4 : Int))) then
          bif (c.snd.snd.snd.fst == (0 : Int)) == true then
            bif (c.snd.snd.snd.snd.fst == (0 : Int)) == true then
              bif ((↑(List.length c.snd.snd.fst) : Int) == (0 : Int)) == true then
                bif (c.snd.snd.snd.snd.snd.fst == (0 : Int)) == true then
                  bif decide (c.snd.snd.snd.fst ≥ (0 : Int)) == true then
                    some
                      (X.d Ty.bool (decide (c.snd.snd.snd.snd.snd.fst ≥ (0 : Int))),
                        [(Ty.struct
                              (Ty.prod (Ty.int IntKind.i64)
                                (Ty.prod (Ty.slice (Ty.int IntKind.u8))
                                  (Ty.prod (Ty.slice (Ty.int IntKind.u8))
                                    (Ty.prod (Ty.int IntKind.i64)
                                      (Ty.prod (Ty.int IntKind.u64) (Ty.prod (Ty.int IntKind.i64) Ty.unit)))))),
                            X.d cmdT c),
                          (Ty.struct (Ty.prod (Ty.int IntKind.i64) (Ty.prod (Ty.int IntKind.i64) Ty.unit)),
                            X.d shT ((1 : Int), (0 : Int), ()))])
                  else
                    some
                      (X.d Ty.bool false,
                        [(Ty.struct
                              (Ty.prod (Ty.int IntKind.i64)
                                (Ty.prod (Ty.slice (Ty.int IntKind.u8))
                                  (Ty.prod (Ty.slice (Ty.int IntKind.u8))
                                    (Ty.prod (Ty.int IntKind.i64)
                                      (Ty.prod (Ty.int IntKind.u64) (Ty.prod (Ty.int IntKind.i64) Ty.unit)))))),
                            X.d cmdT c),
                          (Ty.struct (Ty.prod (Ty.int IntKind.i64) (Ty.prod (Ty.int IntKind.i64) Ty.unit)),
                            X.d shT ((1 : Int), (0 : Int), ()))])
                else
                  some
                    (X.d Ty.bool false,
                      [(Ty.struct
                            (Ty.prod (Ty.int IntKind.i64)
                              (Ty.prod (Ty.slice (Ty.int IntKind.u8))
                                (Ty.prod (Ty.slice (Ty.int IntKind.u8))
                                  (Ty.prod (Ty.int IntKind.i64)
                                    (Ty.prod (Ty.int IntKind.u64) (Ty.prod (Ty.int IntKind.i64) Ty.unit)))))),
                          X.d cmdT c),
                        (Ty.struct (Ty.prod (Ty.int IntKind.i64) (Ty.prod (Ty.int IntKind.i64) Ty.unit)),
                          X.d shT ((1 : Int), (0 : Int), ()))])
              else
                some
                  (X.d Ty.bool false,
                    [(Ty.struct
                          (Ty.prod (Ty.int IntKind.i64)
                            (Ty.prod (Ty.slice (Ty.int IntKind.u8))
                              (Ty.prod (Ty.slice (Ty.int IntKind.u8))
                                (Ty.prod (Ty.int IntKind.i64)
                                  (Ty.prod (Ty.int IntKind.u64) (Ty.prod (Ty.int IntKind.i64) Ty.unit)))))),
                        X.d cmdT c),
                      (Ty.struct (Ty.prod (Ty.int IntKind.i64) (Ty.prod (Ty.int IntKind.i64) Ty.unit)),
                        X.d shT ((1 : Int), (0 : Int), ()))])
            else
              bif ((↑(List.length c.snd.snd.fst) : Int) == (0 : Int)) == true then
                some
                  (X.d Ty.bool false,
                    [(Ty.struct
                          (Ty.prod (Ty.int IntKind.i64)
                            (Ty.prod (Ty.slice (Ty.int IntKind.u8))
                              (Ty.prod (Ty.slice (Ty.int IntKind.u8))
                                (Ty.prod (Ty.int IntKind.i64)
                                  (Ty.prod (Ty.int IntKind.u64) (Ty.prod (Ty.int IntKind.i64) Ty.unit)))))),
                        X.d cmdT c),
                      (Ty.struct (Ty.prod (Ty.int IntKind.i64) (Ty.prod (Ty.int IntKind.i64) Ty.unit)),
                        X.d shT ((1 : Int), (0 : Int), ()))])
              else
                some
                  (X.d Ty.bool false,
                    [(Ty.struct
                          (Ty.prod (Ty.int IntKind.i64)
                            (Ty.prod (Ty.slice (Ty.int IntKind.u8))
                              (Ty.prod (Ty.slice (Ty.int IntKind.u8))
                                (Ty.prod (Ty.int IntKind.i64)
                                  (Ty.prod (Ty.int IntKind.u64) (Ty.prod (Ty.int IntKind.i64) Ty.unit)))))),
                        X.d cmdT c),
                      (Ty.struct (Ty.prod (Ty.int IntKind.i64) (Ty.prod (Ty.int IntKind.i64) Ty.unit)),
                        X.d shT ((1 : Int), (0 : Int), ()))])
          else
            bif ((↑(List.length c.snd.snd.fst) : Int) == (0 : Int)) == true then
              some
                (X.d Ty.bool false,
                  [(Ty.struct
                        (Ty.prod (Ty.int IntKind.i64)
                          (Ty.prod (Ty.slice (Ty.int IntKind.u8))
                            (Ty.prod (Ty.slice (Ty.int IntKind.u8))
                              (Ty.prod (Ty.int IntKind.i64)
                                (Ty.prod (Ty.int IntKind.u64) (Ty.prod (Ty.int IntKind.i64) Ty.unit)))))),
                      X.d cmdT c),
                    (Ty.struct (Ty.prod (Ty.int IntKind.i64) (Ty.prod (Ty.int IntKind.i64) Ty.unit)),
                      X.d shT ((1 : Int), (0 : Int), ()))])
            else
              some
                (X.d Ty.bool false,
                  [(Ty.struct
                        (Ty.prod (Ty.int IntKind.i64)
                          (Ty.prod (Ty.slice (Ty.int IntKind.u8))
                            (Ty.prod (Ty.slice (Ty.int IntKind.u8))
                              (Ty.prod (Ty.int IntKind.i64)
                                (Ty.prod (Ty.int IntKind.u64) (Ty.prod (Ty.int IntKind.i64) Ty.unit)))))),
                      X.d cmdT c),
                    (Ty.struct (Ty.prod (Ty.int IntKind.i64) (Ty.prod (Ty.int IntKind.i64) Ty.unit)),
                      X.d shT ((1 : Int), (0 : Int), ()))])
        else
          bif A.se (decide (c.fst = (3 : Int))) then
            bif ((↑(List.length c.snd.fst) : Int) == (0 : Int)) == true then
              bif (c.snd.snd.snd.fst == (0 : Int)) == true then
                bif (c.snd.snd.snd.snd.fst == (0 : Int)) == true then
                  bif ((↑(List.length c.snd.snd.fst) : Int) == (0 : Int)) == true then
                    bif (c.snd.snd.snd.snd.snd.fst == (0 : Int)) == true then
                      bif decide (c.snd.snd.snd.fst ≥ (0 : Int)) == true then
                        some
                          (X.d Ty.bool (decide (c.snd.snd.snd.snd.snd.fst ≥ (0 : Int))),
                            [(Ty.struct
                                  (Ty.prod (Ty.int IntKind.i64)
                                    (Ty.prod (Ty.slice (Ty.int IntKind.u8))
                                      (Ty.prod (Ty.slice (Ty.int IntKind.u8))
                                        (Ty.prod (Ty.int IntKind.i64)
                                          (Ty.prod (Ty.int IntKind.u64) (Ty.prod (Ty.int IntKind.i64) Ty.unit)))))),
                                X.d cmdT c),
                              (Ty.struct (Ty.prod (Ty.int IntKind.i64) (Ty.prod (Ty.int IntKind.i64) Ty.unit)),
                                X.d shT ((0 : Int), (0 : Int), ()))])
                      else
                        some
                          (X.d Ty.bool false,
                            [(Ty.struct
                                  (Ty.prod (Ty.int IntKind.i64)
                                    (Ty.prod (Ty.slice (Ty.int IntKind.u8))
                                      (Ty.prod (Ty.slice (Ty.int IntKind.u8))
                                        (Ty.prod (Ty.int IntKind.i64)
                                          (Ty.prod (Ty.int IntKind.u64) (Ty.prod (Ty.int IntKind.i64) Ty.unit)))))),
                                X.d cmdT c),
                              (Ty.struct (Ty.prod (Ty.int IntKind.i64) (Ty.prod (Ty.int IntKind.i64) Ty.unit)),
                                X.d shT ((0 : Int), (0 : Int), ()))])
                    else
                      some
                        (X.d Ty.bool false,
                          [(Ty.struct
                                (Ty.prod (Ty.int IntKind.i64)
                                  (Ty.prod (Ty.slice (Ty.int IntKind.u8))
                                    (Ty.prod (Ty.slice (Ty.int IntKind.u8))
                                      (Ty.prod (Ty.int IntKind.i64)
                                        (Ty.prod (Ty.int IntKind.u64) (Ty.prod (Ty.int IntKind.i64) Ty.unit)))))),
                              X.d cmdT c),
                            (Ty.struct (Ty.prod (Ty.int IntKind.i64) (Ty.prod (Ty.int IntKind.i64) Ty.unit)),
                              X.d shT ((0 : Int), (0 : Int), ()))])
                  else
                    some
                      (X.d Ty.bool false,
                        [(Ty.struct
                              (Ty.prod (Ty.int IntKind.i64)
                                (Ty.prod (Ty.slice (Ty.int IntKind.u8))
                                  (Ty.prod (Ty.slice (Ty.int IntKind.u8))
                                    (Ty.prod (Ty.int IntKind.i64)
                                      (Ty.prod (Ty.int IntKind.u64) (Ty.prod (Ty.int IntKind.i64) Ty.unit)))))),
                            X.d cmdT c),
                          (Ty.struct (Ty.prod (Ty.int IntKind.i64) (Ty.prod (Ty.int IntKind.i64) Ty.unit)),
                            X.d shT ((0 : Int), (0 : Int), ()))])
                else
                  bif ((↑(List.length c.snd.snd.fst) : Int) == (0 : Int)) == true then
                    some
                      (X.d Ty.bool false,
                        [(Ty.struct
                              (Ty.prod (Ty.int IntKind.i64)
                                (Ty.prod (Ty.slice (Ty.int IntKind.u8))
                                  (Ty.prod (Ty.slice (Ty.int IntKind.u8))
                                    (Ty.prod (Ty.int IntKind.i64)
                                      (Ty.prod (Ty.int IntKind.u64) (Ty.prod (Ty.int IntKind.i64) Ty.unit)))))),
                            X.d cmdT c),
                          (Ty.struct (Ty.prod (Ty.int IntKind.i64) (Ty.prod (Ty.int IntKind.i64) Ty.unit)),
                            X.d shT ((0 : Int), (0 : Int), ()))])
                  else
                    some
                      (X.d Ty.bool false,
                        [(Ty.struct
                              (Ty.prod (Ty.int IntKind.i64)
                                (Ty.prod (Ty.slice (Ty.int IntKind.u8))
                                  (Ty.prod (Ty.slice (Ty.int IntKind.u8))
                                    (Ty.prod (Ty.int IntKind.i64)
                                      (Ty.prod (Ty.int IntKind.u64) (Ty.prod (Ty.int IntKind.i64) Ty.unit)))))),
                            X.d cmdT c),
                          (Ty.struct (Ty.prod (Ty.int IntKind.i64) (Ty.prod (Ty.int IntKind.i64) Ty.unit)),
                            X.d shT ((0 : Int), (0 : Int), ()))])
              else
                bif ((↑(List.length c.snd.snd.fst) : Int) == (0 : Int)) == true then
                  some
                    (X.d Ty.bool false,
                      [(Ty.struct
                            (Ty.prod (Ty.int IntKind.i64)
                              (Ty.prod (Ty.slice (Ty.int IntKind.u8))
                                (Ty.prod (Ty.slice (Ty.int IntKind.u8))
                                  (Ty.prod (Ty.int IntKind.i64)
                                    (Ty.prod (Ty.int IntKind.u64) (Ty.prod (Ty.int IntKind.i64) Ty.unit)))))),
                          X.d cmdT c),
                        (Ty.struct (Ty.prod (Ty.int IntKind.i64) (Ty.prod (Ty.int IntKind.i64) Ty.unit)),
                          X.d shT ((0 : Int), (0 : Int), ()))])
                else
                  some
                    (X.d Ty.bool false,
                      [(Ty.struct
                            (Ty.prod (Ty.int IntKind.i64)
                              (Ty.prod (Ty.slice (Ty.int IntKind.u8))
                                (Ty.prod (Ty.slice (Ty.int IntKind.u8))
                                  (Ty.prod (Ty.int IntKind.i64)
                                    (Ty.prod (Ty.int IntKind.u64) (Ty.prod (Ty.int IntKind.i64) Ty.unit)))))),
                          X.d cmdT c),
                        (Ty.struct (Ty.prod (Ty.int IntKind.i64) (Ty.prod (Ty.int IntKind.i64) Ty.unit)),
                          X.d shT ((0 : Int), (0 : Int), ()))])
            else
              bif (c.snd.snd.snd.fst == (0 : Int)) == true then
                bif (c.snd.snd.snd.snd.fst == (0 : Int)) == true then
                  some
                    (X.d Ty.bool false,
                      [(Ty.struct
                            (Ty.prod (Ty.int IntKind.i64)
                              (Ty.prod (Ty.slice (Ty.int IntKind.u8))
                                (Ty.prod (Ty.slice (Ty.int IntKind.u8))
                                  (Ty.prod (Ty.int IntKind.i64)
                                    (Ty.prod (Ty.int IntKind.u64) (Ty.prod (Ty.int IntKind.i64) Ty.unit)))))),
                          X.d cmdT c),
                        (Ty.struct (Ty.prod (Ty.int IntKind.i64) (Ty.prod (Ty.int IntKind.i64) Ty.unit)),
                          X.d shT ((0 : Int), (0 : Int), ()))])
                else
                  some
                    (X.d Ty.bool false,
                      [(Ty.struct
                            (Ty.prod (Ty.int IntKind.i64)
                              (Ty.prod (Ty.slice (Ty.int IntKind.u8))
                                (Ty.prod (Ty.slice (Ty.int IntKind.u8))
                                  (Ty.prod (Ty.int IntKind.i64)
                                    (Ty.prod (Ty.int IntKind.u64) (Ty.prod (Ty.int IntKind.i64) Ty.unit)))))),
                          X.d cmdT c),
                        (Ty.struct (Ty.prod (Ty.int IntKind.i64) (Ty.prod (Ty.int IntKind.i64) Ty.unit)),
                          X.d shT ((0 : Int), (0 : Int), ()))])
              else
                some
                  (X.d Ty.bool false,
                    [(Ty.struct
                          (Ty.prod (Ty.int IntKind.i64)
                            (Ty.prod (Ty.slice (Ty.int IntKind.u8))
                              (Ty.prod (Ty.slice (Ty.int IntKind.u8))
                                (Ty.prod (Ty.int IntKind.i64)
                                  (Ty.prod (Ty.int IntKind.u64) (Ty.prod (Ty.int IntKind.i64) Ty.unit)))))),
                        X.d cmdT c),
                      (Ty.struct (Ty.prod (Ty.int IntKind.i64) (Ty.prod (Ty.int IntKind.i64) Ty.unit)),
                        X.d shT ((0 : Int), (0 : Int), ()))])
          else
            bif ((↑(List.length c.snd.fst) : Int) == (0 : Int)) == true then
              bif (c.snd.snd.snd.fst == (0 : Int)) == true then
                bif (c.snd.snd.snd.snd.fst == (0 : Int)) == true then
                  some
                    (X.d Ty.bool false,
                      [(Ty.struct
                            (Ty.prod (Ty.int IntKind.i64)
                              (Ty.prod (Ty.slice (Ty.int IntKind.u8))
                                (Ty.prod (Ty.slice (Ty.int IntKind.u8))
                                  (Ty.prod (Ty.int IntKind.i64)
                                    (Ty.prod (Ty.int IntKind.u64) (Ty.prod (Ty.int IntKind.i64) Ty.unit)))))),
                          X.d cmdT c),
                        (Ty.struct (Ty.prod (Ty.int IntKind.i64) (Ty.prod (Ty.int IntKind.i64) Ty.unit)),
                          X.d shT ((0 : Int), (0 : Int), ()))])
                else
                  some
                    (X.d Ty.bool false,
                      [(Ty.struct
                            (Ty.prod (Ty.int IntKind.i64)
                              (Ty.prod (Ty.slice (Ty.int IntKind.u8))
                                (Ty.prod (Ty.slice (Ty.int IntKind.u8))
                                  (Ty.prod (Ty.int IntKind.i64)
                                    (Ty.prod (Ty.int IntKind.u64) (Ty.prod (Ty.int IntKind.i64) Ty.unit)))))),
                          X.d cmdT c),
                        (Ty.struct (Ty.prod (Ty.int IntKind.i64) (Ty.prod (Ty.int IntKind.i64) Ty.unit)),
                          X.d shT ((0 : Int), (0 : Int), ()))])
              else
                some
                  (X.d Ty.bool false,
                    [(Ty.struct
                          (Ty.prod (Ty.int IntKind.i64)
                            (Ty.prod (Ty.slice (Ty.int IntKind.u8))
                              (Ty.prod (Ty.slice (Ty.int IntKind.u8))
                                (Ty.prod (Ty.int IntKind.i64)
                                  (Ty.prod (Ty.int IntKind.u64) (Ty.prod (Ty.int IntKind.i64) Ty.unit)))))),
                        X.d cmdT c),
                      (Ty.struct (Ty.prod (Ty.int IntKind.i64) (Ty.prod (Ty.int IntKind.i64) Ty.unit)),
                        X.d shT ((0 : Int), (0 : Int), ()))])
            else
              bif (c.snd.snd.snd.fst == (0 : Int)) == true then
                bif (c.snd.snd.snd.snd.fst == (0 : Int)) == true then
                  some
                    (X.d Ty.bool false,
                      [(Ty.struct
                            (Ty.prod (Ty.int IntKind.i64)
                              (Ty.prod (Ty.slice (Ty.int IntKind.u8))
                                (Ty.prod (Ty.slice (Ty.int IntKind.u8))
                                  (Ty.prod (Ty.int IntKind.i64)
                                    (Ty.prod (Ty.int IntKind.u64) (Ty.prod (Ty.int IntKind.i64) Ty.unit)))))),
                          X.d cmdT c),
                        (Ty.struct (Ty.prod (Ty.int IntKind.i64) (Ty.prod (Ty.int IntKind.i64) Ty.unit)),
                          X.d shT ((0 : Int), (0 : Int), ()))])
                else
                  some
                    (X.d Ty.bool false,
                      [(Ty.struct
                            (Ty.prod (Ty.int IntKind.i64)
                              (Ty.prod (Ty.slice (Ty.int IntKind.u8))
                                (Ty.prod (Ty.slice (Ty.int IntKind.u8))
                                  (Ty.prod (Ty.int IntKind.i64)
                                    (Ty.prod (Ty.int IntKind.u64) (Ty.prod (Ty.int IntKind.i64) Ty.unit)))))),
                          X.d cmdT c),
                        (Ty.struct (Ty.prod (Ty.int IntKind.i64) (Ty.prod (Ty.int IntKind.i64) Ty.unit)),
                          X.d shT ((0 : Int), (0 : Int), ()))])
              else
                some
                  (X.d Ty.bool false,
                    [(Ty.struct
                          (Ty.prod (Ty.int IntKind.i64)
                            (Ty.prod (Ty.slice (Ty.int IntKind.u8))
                              (Ty.prod (Ty.slice (Ty.int IntKind.u8))
                                (Ty.prod (Ty.int IntKind.i64)
                                  (Ty.prod (Ty.int IntKind.u64) (Ty.prod (Ty.int IntKind.i64) Ty.unit)))))),
                        X.d cmdT c),
                      (Ty.struct (Ty.prod (Ty.int IntKind.i64) (Ty.prod (Ty.int IntKind.i64) Ty.unit)),
                        X.d shT ((0 : Int), (0 : Int), ()))])) := by kernel_rfl
theorem tRefCheck (A : Ar) (c : Cm) : bodyX (Cx A (OviA A) noL) 100 Try.f16 [cmx c] [] =
    (bif decide (c.fst < (1 : Int)) == false then
      bif decide (c.fst > (5 : Int)) == false then
        bif decide (c.snd.snd.snd.fst < (0 : Int)) == false then
          bif decide (c.snd.snd.snd.snd.snd.fst < (0 : Int)) then
            some
              (X.d Ty.bool false,
                [(Ty.struct
                      (Ty.prod (Ty.int IntKind.i64)
                        (Ty.prod (Ty.slice (Ty.int IntKind.u8))
                          (Ty.prod (Ty.slice (Ty.int IntKind.u8))
                            (Ty.prod (Ty.int IntKind.i64)
                              (Ty.prod (Ty.int IntKind.u64) (Ty.prod (Ty.int IntKind.i64) Ty.unit)))))),
                    X.d cmdT c)])
          else
            bif (c.fst != (1 : Int)) == true then
              bif decide ((↑(List.length c.snd.snd.fst) : Int) > (0 : Int)) == false then
                bif (c.fst == (3 : Int)) == true then
                  bif decide ((↑(List.length c.snd.fst) : Int) > (0 : Int)) then
                    some
                      (X.d Ty.bool false,
                        [(Ty.struct
                              (Ty.prod (Ty.int IntKind.i64)
                                (Ty.prod (Ty.slice (Ty.int IntKind.u8))
                                  (Ty.prod (Ty.slice (Ty.int IntKind.u8))
                                    (Ty.prod (Ty.int IntKind.i64)
                                      (Ty.prod (Ty.int IntKind.u64) (Ty.prod (Ty.int IntKind.i64) Ty.unit)))))),
                            X.d cmdT c)])
                  else
                    bif (c.fst == (5 : Int)) == false then
                      bif (c.snd.snd.snd.fst == (0 : Int)) == true then
                        bif (c.snd.snd.snd.snd.fst == (0 : Int)) == true then
                          some
                            (X.d Ty.bool (c.snd.snd.snd.snd.snd.fst == (0 : Int)),
                              [(Ty.struct
                                    (Ty.prod (Ty.int IntKind.i64)
                                      (Ty.prod (Ty.slice (Ty.int IntKind.u8))
                                        (Ty.prod (Ty.slice (Ty.int IntKind.u8))
                                          (Ty.prod (Ty.int IntKind.i64)
                                            (Ty.prod (Ty.int IntKind.u64) (Ty.prod (Ty.int IntKind.i64) Ty.unit)))))),
                                  X.d cmdT c)])
                        else
                          some
                            (X.d Ty.bool false,
                              [(Ty.struct
                                    (Ty.prod (Ty.int IntKind.i64)
                                      (Ty.prod (Ty.slice (Ty.int IntKind.u8))
                                        (Ty.prod (Ty.slice (Ty.int IntKind.u8))
                                          (Ty.prod (Ty.int IntKind.i64)
                                            (Ty.prod (Ty.int IntKind.u64) (Ty.prod (Ty.int IntKind.i64) Ty.unit)))))),
                                  X.d cmdT c)])
                      else
                        some
                          (X.d Ty.bool false,
                            [(Ty.struct
                                  (Ty.prod (Ty.int IntKind.i64)
                                    (Ty.prod (Ty.slice (Ty.int IntKind.u8))
                                      (Ty.prod (Ty.slice (Ty.int IntKind.u8))
                                        (Ty.prod (Ty.int IntKind.i64)
                                          (Ty.prod (Ty.int IntKind.u64) (Ty.prod (Ty.int IntKind.i64) Ty.unit)))))),
                                X.d cmdT c)])
                    else
                      some
                        (X.d Ty.bool true,
                          [(Ty.struct
                                (Ty.prod (Ty.int IntKind.i64)
                                  (Ty.prod (Ty.slice (Ty.int IntKind.u8))
                                    (Ty.prod (Ty.slice (Ty.int IntKind.u8))
                                      (Ty.prod (Ty.int IntKind.i64)
                                        (Ty.prod (Ty.int IntKind.u64) (Ty.prod (Ty.int IntKind.i64) Ty.unit)))))),
                              X.d cmdT c)])
                else
                  bif (c.fst == (5 : Int)) == false then
                    bif (c.snd.snd.snd.fst == (0 : Int)) == true then
                      bif (c.snd.snd.snd.snd.fst == (0 : Int)) == true then
                        some
                          (X.d Ty.bool (c.snd.snd.snd.snd.snd.fst == (0 : Int)),
                            [(Ty.struct
                                  (Ty.prod (Ty.int IntKind.i64)
                                    (Ty.prod (Ty.slice (Ty.int IntKind.u8))
                                      (Ty.prod (Ty.slice (Ty.int IntKind.u8))
                                        (Ty.prod (Ty.int IntKind.i64)
                                          (Ty.prod (Ty.int IntKind.u64) (Ty.prod (Ty.int IntKind.i64) Ty.unit)))))),
                                X.d cmdT c)])
                      else
                        some
                          (X.d Ty.bool false,
                            [(Ty.struct
                                  (Ty.prod (Ty.int IntKind.i64)
                                    (Ty.prod (Ty.slice (Ty.int IntKind.u8))
                                      (Ty.prod (Ty.slice (Ty.int IntKind.u8))
                                        (Ty.prod (Ty.int IntKind.i64)
                                          (Ty.prod (Ty.int IntKind.u64) (Ty.prod (Ty.int IntKind.i64) Ty.unit)))))),
                                X.d cmdT c)])
                    else
                      some
                        (X.d Ty.bool false,
                          [(Ty.struct
                                (Ty.prod (Ty.int IntKind.i64)
                                  (Ty.prod (Ty.slice (Ty.int IntKind.u8))
                                    (Ty.prod (Ty.slice (Ty.int IntKind.u8))
                                      (Ty.prod (Ty.int IntKind.i64)
                                        (Ty.prod (Ty.int IntKind.u64) (Ty.prod (Ty.int IntKind.i64) Ty.unit)))))),
                              X.d cmdT c)])
                  else
                    some
                      (X.d Ty.bool true,
                        [(Ty.struct
                              (Ty.prod (Ty.int IntKind.i64)
                                (Ty.prod (Ty.slice (Ty.int IntKind.u8))
                                  (Ty.prod (Ty.slice (Ty.int IntKind.u8))
                                    (Ty.prod (Ty.int IntKind.i64)
                                      (Ty.prod (Ty.int IntKind.u64) (Ty.prod (Ty.int IntKind.i64) Ty.unit)))))),
                            X.d cmdT c)])
              else
                some
                  (X.d Ty.bool false,
                    [(Ty.struct
                          (Ty.prod (Ty.int IntKind.i64)
                            (Ty.prod (Ty.slice (Ty.int IntKind.u8))
                              (Ty.prod (Ty.slice (Ty.int IntKind.u8))
                                (Ty.prod (Ty.int IntKind.i64)
                                  (Ty.prod (Ty.int IntKind.u64) (Ty.prod (Ty.int IntKind.i64) Ty.unit)))))),
                        X.d cmdT c)])
            else
              bif (c.fst == (3 : Int)) == true then
                bif decide ((↑(List.length c.snd.fst) : Int) > (0 : Int)) then
                  some
                    (X.d Ty.bool false,
                      [(Ty.struct
                            (Ty.prod (Ty.int IntKind.i64)
                              (Ty.prod (Ty.slice (Ty.int IntKind.u8))
                                (Ty.prod (Ty.slice (Ty.int IntKind.u8))
                                  (Ty.prod (Ty.int IntKind.i64)
                                    (Ty.prod (Ty.int IntKind.u64) (Ty.prod (Ty.int IntKind.i64) Ty.unit)))))),
                          X.d cmdT c)])
                else
                  bif (c.fst == (5 : Int)) == false then
                    bif (c.snd.snd.snd.fst == (0 : Int)) == true then
                      bif (c.snd.snd.snd.snd.fst == (0 : Int)) == true then
                        some
                          (X.d Ty.bool (c.snd.snd.snd.snd.snd.fst == (0 : Int)),
                            [(Ty.struct
                                  (Ty.prod (Ty.int IntKind.i64)
                                    (Ty.prod (Ty.slice (Ty.int IntKind.u8))
                                      (Ty.prod (Ty.slice (Ty.int IntKind.u8))
                                        (Ty.prod (Ty.int IntKind.i64)
                                          (Ty.prod (Ty.int IntKind.u64) (Ty.prod (Ty.int IntKind.i64) Ty.unit)))))),
                                X.d cmdT c)])
                      else
                        some
                          (X.d Ty.bool false,
                            [(Ty.struct
                                  (Ty.prod (Ty.int IntKind.i64)
                                    (Ty.prod (Ty.slice (Ty.int IntKind.u8))
                                      (Ty.prod (Ty.slice (Ty.int IntKind.u8))
                                        (Ty.prod (Ty.int IntKind.i64)
                                          (Ty.prod (Ty.int IntKind.u64) (Ty.prod (Ty.int IntKind.i64) Ty.unit)))))),
                                X.d cmdT c)])
                    else
                      some
                        (X.d Ty.bool false,
                          [(Ty.struct
                                (Ty.prod (Ty.int IntKind.i64)
                                  (Ty.prod (Ty.slice (Ty.int IntKind.u8))
                                    (Ty.prod (Ty.slice (Ty.int IntKind.u8))
                                      (Ty.prod (Ty.int IntKind.i64)
                                        (Ty.prod (Ty.int IntKind.u64) (Ty.prod (Ty.int IntKind.i64) Ty.unit)))))),
                              X.d cmdT c)])
                  else
                    some
                      (X.d Ty.bool true,
                        [(Ty.struct
                              (Ty.prod (Ty.int IntKind.i64)
                                (Ty.prod (Ty.slice (Ty.int IntKind.u8))
                                  (Ty.prod (Ty.slice (Ty.int IntKind.u8))
                                    (Ty.prod (Ty.int IntKind.i64)
                                      (Ty.prod (Ty.int IntKind.u64) (Ty.prod (Ty.int IntKind.i64) Ty.unit)))))),
                            X.d cmdT c)])
              else
                bif (c.fst == (5 : Int)) == false then
                  bif (c.snd.snd.snd.fst == (0 : Int)) == true then
                    bif (c.snd.snd.snd.snd.fst == (0 : Int)) == true then
                      some
                        (X.d Ty.bool (c.snd.snd.snd.snd.snd.fst == (0 : Int)),
                          [(Ty.struct
                                (Ty.prod (Ty.int IntKind.i64)
                                  (Ty.prod (Ty.slice (Ty.int IntKind.u8))
                                    (Ty.prod (Ty.slice (Ty.int IntKind.u8))
                                      (Ty.prod (Ty.int IntKind.i64)
                                        (Ty.prod (Ty.int IntKind.u64) (Ty.prod (Ty.int IntKind.i64) Ty.unit)))))),
                              X.d cmdT c)])
                    else
                      some
                        (X.d Ty.bool false,
                          [(Ty.struct
                                (Ty.prod (Ty.int IntKind.i64)
                                  (Ty.prod (Ty.slice (Ty.int IntKind.u8))
                                    (Ty.prod (Ty.slice (Ty.int IntKind.u8))
                                      (Ty.prod (Ty.int IntKind.i64)
                                        (Ty.prod (Ty.int IntKind.u64) (Ty.prod (Ty.int IntKind.i64) Ty.unit)))))),
                              X.d cmdT c)])
                  else
                    some
                      (X.d Ty.bool false,
                        [(Ty.struct
                              (Ty.prod (Ty.int IntKind.i64)
                                (Ty.prod (Ty.slice (Ty.int IntKind.u8))
                                  (Ty.prod (Ty.slice (Ty.int IntKind.u8))
                                    (Ty.prod (Ty.int IntKind.i64)
                                      (Ty.prod (Ty.int IntKind.u64) (Ty.prod (Ty.int IntKind.i64) Ty.unit)))))),
                            X.d cmdT c)])
                else
                  some
                    (X.d Ty.bool true,
                      [(Ty.struct
                            (Ty.prod (Ty.int IntKind.i64)
                              (Ty.prod (Ty.slice (Ty.int IntKind.u8))
                                (Ty.prod (Ty.slice (Ty.int IntKind.u8))
                                  (Ty.prod (Ty.int IntKind.i64)
                                    (Ty.prod (Ty.int IntKind.u64) (Ty.prod (Ty.int IntKind.i64) Ty.unit)))))),
                          X.d cmdT c)])
        else
          some
            (X.d Ty.bool false,
              [(Ty.struct
                    (Ty.prod (Ty.int IntKind.i64)
                      (Ty.prod (Ty.slice (Ty.int IntKind.u8))
                        (Ty.prod (Ty.slice (Ty.int IntKind.u8))
                          (Ty.prod (Ty.int IntKind.i64)
                            (Ty.prod (Ty.int IntKind.u64) (Ty.prod (Ty.int IntKind.i64) Ty.unit)))))),
                  X.d cmdT c)])
      else
        some
          (X.d Ty.bool false,
            [(Ty.struct
                  (Ty.prod (Ty.int IntKind.i64)
                    (Ty.prod (Ty.slice (Ty.int IntKind.u8))
                      (Ty.prod (Ty.slice (Ty.int IntKind.u8))
                        (Ty.prod (Ty.int IntKind.i64)
                          (Ty.prod (Ty.int IntKind.u64) (Ty.prod (Ty.int IntKind.i64) Ty.unit)))))),
                X.d cmdT c)])
    else
      some
        (X.d Ty.bool false,
          [(Ty.struct
                (Ty.prod (Ty.int IntKind.i64)
                  (Ty.prod (Ty.slice (Ty.int IntKind.u8))
                    (Ty.prod (Ty.slice (Ty.int IntKind.u8))
                      (Ty.prod (Ty.int IntKind.i64)
                        (Ty.prod (Ty.int IntKind.u64) (Ty.prod (Ty.int IntKind.i64) Ty.unit)))))),
              X.d cmdT c)])) := by kernel_rfl
theorem tBad (A : Ar) (c : Cm) : bodyX (Cx A (Oadd (OviA A) 15 (.pure (checkF A))) noL) 100 Try.f19 [cmx c] [] =
    (some
      (X.d Ty.bool !A.se (checkC c),
        [(Ty.struct
              (Ty.prod (Ty.int IntKind.i64)
                (Ty.prod (Ty.slice (Ty.int IntKind.u8))
                  (Ty.prod (Ty.slice (Ty.int IntKind.u8))
                    (Ty.prod (Ty.int IntKind.i64) (Ty.prod (Ty.int IntKind.u64) (Ty.prod (Ty.int IntKind.i64) Ty.unit)))))),
            X.d cmdT c)])) := by kernel_rfl
theorem tIndex (A : Ar) (l : List Cm) (nl : Option Bool) : bodyX (Cx A (OscA A) (Lidx A)) 100 Try.f28 [cms l nl false, .fn 19 [] []] [] =
    (bif
        A.se
          (decide
            (List.length l ≤ (140737488355328 : Nat) ∧
              (↑(List.length l) : Int) = (↑(List.length l) : Int) ∧
                (0 : Int) ≤ (0 : Int) ∧ (0 : Int) ≤ (↑(List.length l) : Int))) then
      bif A.se (decide (firstBad (List.drop (Int.toNat (0 : Int)) l) < (0 : Int))) then
        some (X.d (Ty.int IntKind.i64) (-1 : Int), [])
      else some (X.d (Ty.int IntKind.i64) (A.se ((0 : Int) + firstBad (List.drop (Int.toNat (0 : Int)) l))), [])
    else none) := by kernel_rfl
theorem lIndex (A : Ar) (R : Type) (l : List Cm) (nl : Option Bool) (z n i : Int) (k : Ex → List X → Hp → Option R) : stepF (Cx A (OscA A) (Lidx A)) 100 (loopAt Try.f28 0) 19 [0, 1, 4, 7, 8] [cms l nl false, .fn 19 [] [], i64x z, i64x n, i64x i] [] k =
    (bif decide (i < n) then
      bif decide ((0 : Int) ≤ i ∧ i < (↑(List.length l) : Int)) then
        bif A.se !checkC (List.getD l (Int.toNat i) (Ty.zero cmdT)) then
          k Ex.ret
            [X.sl cmdT l nl false, X.fn (19 : Nat) [] [], X.d (Ty.int IntKind.i64) i, X.d (Ty.int IntKind.i64) n,
              X.d (Ty.int IntKind.i64) i]
            []
        else
          k Ex.normal
            [X.sl cmdT l nl false, X.fn (19 : Nat) [] [], X.d (Ty.int IntKind.i64) z, X.d (Ty.int IntKind.i64) n,
              X.d (Ty.int IntKind.i64) (A.wrap IntKind.i64 (i + (1 : Int)))]
            []
      else none
    else
      k (Ex.exit (0 : Nat))
        [X.sl cmdT l nl false, X.fn (19 : Nat) [] [], X.d (Ty.int IntKind.i64) z, X.d (Ty.int IntKind.i64) n,
          X.d (Ty.int IntKind.i64) i]
        []) := by kernel_rfl
theorem tContains (A : Ar) (l : List Cm) (nl : Option Bool) : bodyX (Cx A (Osc1 A) noL) 100 Try.f18 [cms l nl false, .fn 19 [] []] [] =
    (bif A.se (decide (List.length l ≤ (140737488355328 : Nat))) then
      some (X.d Ty.bool (decide (A.se (firstBad l) ≥ (0 : Int))), [])
    else none) := by kernel_rfl
theorem tFew (A : Ar) (l : List Cm) (nl : Option Bool) (m : Int) : bodyX (Cx A (OscA A) (Lfew A)) 100 Try.f9 [cms l nl false, i64x m] [] =
    (bif
        A.se
          (decide
            (List.length l ≤ (9223372036854775807 : Nat) ∧
              (0 : Int) ≤ (0 : Int) ∧
                (0 : Int) ≤ (↑(List.length l) : Int))) then
      bif A.se (List.all (List.drop (Int.toNat (0 : Int)) l) small) then
        some (X.d Ty.bool (decide ((↑(List.length l) : Int) ≤ m)), [])
      else some (X.d Ty.bool false, [])
    else none) := by kernel_rfl
theorem lFew (A : Ar) (R : Type) (l : List Cm) (nl : Option Bool) (m : Int) (z : Bool) (i : Int) (k : Ex → List X → Hp → Option R) : stepF (Cx A (OscA A) (Lfew A)) 100 (loopAt Try.f9 0) 32 [0, 1, 4, 5] [cms l nl false, i64x m, boolx z, i64x i] [] k =
    (bif decide (i < (↑(List.length l) : Int)) then
      bif decide ((0 : Int) ≤ i ∧ i < (↑(List.length l) : Int)) then
        bif decide ((↑(List.length (List.getD l (Int.toNat i) (Ty.zero cmdT)).snd.fst) : Int) > (3000 : Int)) == false then
          bif decide ((0 : Int) ≤ i ∧ i < (↑(List.length l) : Int)) then
            bif decide ((↑(List.length (List.getD l (Int.toNat i) (Ty.zero cmdT)).snd.snd.fst) : Int) > (3000 : Int)) then
              k Ex.ret [X.sl cmdT l nl false, X.d (Ty.int IntKind.i64) m, X.d Ty.bool false, X.d (Ty.int IntKind.i64) i] []
            else
              k Ex.normal
                [X.sl cmdT l nl false, X.d (Ty.int IntKind.i64) m, X.d Ty.bool z,
                  X.d (Ty.int IntKind.i64) (A.wrap IntKind.i64 (i + (1 : Int)))]
                []
          else none
        else k Ex.ret [X.sl cmdT l nl false, X.d (Ty.int IntKind.i64) m, X.d Ty.bool false, X.d (Ty.int IntKind.i64) i] []
      else none
    else
      k (Ex.exit (0 : Nat)) [X.sl cmdT l nl false, X.d (Ty.int IntKind.i64) m, X.d Ty.bool z, X.d (Ty.int IntKind.i64) i] []) := by kernel_rfl
theorem tSame (A : Ar) (a : List Cm) (na : Option Bool) (b : List Cm) (nb : Option Bool) : bodyX (Cx A (OscA A) (Lsame A)) 100 Try.f14 [cms a na false, cms b nb false] [] =
    (bif (↑(List.length a) : Int) != (↑(List.length b) : Int) then some (X.d Ty.bool false, [])
    else
      bif
          A.se
            (decide
                (List.length a ≤ (1000000000 : Nat) ∧
                  List.length b = List.length a ∧
                    (0 : Int) ≤ (0 : Int) ∧
                      (0 : Int) ≤ (↑(List.length a) : Int)) &&
              (List.all a wfB && List.all b wfB)) then
        bif A.se (eqCs (List.drop (Int.toNat (0 : Int)) a) (List.drop (Int.toNat (0 : Int)) b)) then
          some (X.d Ty.bool true, [])
        else some (X.d Ty.bool false, [])
      else none) := by kernel_rfl
theorem lSame (A : Ar) (R : Type) (a : List Cm) (na : Option Bool) (b : List Cm) (nb : Option Bool) (z : Bool) (i : Int) (k : Ex → List X → Hp → Option R) : stepF (Cx A (OscA A) (Lsame A)) 100 (loopAt Try.f14 0) 100 [0, 1, 4, 5] [cms a na false, cms b nb false, boolx z, i64x i] [] k =
    (bif decide (i < (↑(List.length a) : Int)) then
      bif decide ((0 : Int) ≤ i ∧ i < (↑(List.length a) : Int)) then
        bif decide ((0 : Int) ≤ i ∧ i < (↑(List.length b) : Int)) then
          bif
              A.seq (strOf (List.getD a (Int.toNat i) (Ty.zero cmdT)).snd.fst)
                  (strOf (List.getD b (Int.toNat i) (Ty.zero cmdT)).snd.fst) ==
                true then
            bif decide ((0 : Int) ≤ i ∧ i < (↑(List.length a) : Int)) then
              bif decide ((0 : Int) ≤ i ∧ i < (↑(List.length b) : Int)) then
                bif
                    (!A.seq (strOf (List.getD a (Int.toNat i) (Ty.zero cmdT)).snd.snd.fst)
                          (strOf (List.getD b (Int.toNat i) (Ty.zero cmdT)).snd.snd.fst)) ==
                      false then
                  bif decide ((0 : Int) ≤ i ∧ i < (↑(List.length a) : Int)) then
                    bif decide ((0 : Int) ≤ i ∧ i < (↑(List.length b) : Int)) then
                      bif
                          ((List.getD a (Int.toNat i) (Ty.zero cmdT)).fst !=
                              (List.getD b (Int.toNat i) (Ty.zero cmdT)).fst) ==
                            false then
                        bif decide ((0 : Int) ≤ i ∧ i < (↑(List.length a) : Int)) then
                          bif decide ((0 : Int) ≤ i ∧ i < (↑(List.length b) : Int)) then
                            bif
                                ((List.getD a (Int.toNat i) (Ty.zero cmdT)).snd.snd.snd.fst !=
                                    (List.getD b (Int.toNat i) (Ty.zero cmdT)).snd.snd.snd.fst) ==
                                  false then
                              bif decide ((0 : Int) ≤ i ∧ i < (↑(List.length a) : Int)) then
                                bif decide ((0 : Int) ≤ i ∧ i < (↑(List.length b) : Int)) then
                                  bif
                                      ((List.getD a (Int.toNat i) (Ty.zero cmdT)).snd.snd.snd.snd.fst !=
                                          (List.getD b (Int.toNat i) (Ty.zero cmdT)).snd.snd.snd.snd.fst) ==
                                        false then
                                    bif decide ((0 : Int) ≤ i ∧ i < (↑(List.length a) : Int)) then
                                      bif decide ((0 : Int) ≤ i ∧ i < (↑(List.length b) : Int)) then
                                        bif
                                            (List.getD a (Int.toNat i) (Ty.zero cmdT)).snd.snd.snd.snd.snd.fst !=
                                              (List.getD b (Int.toNat i) (Ty.zero cmdT)).snd.snd.snd.snd.snd.fst then
                                          k Ex.ret
                                            [X.sl cmdT a na false, X.sl cmdT b nb false, X.d Ty.bool false,
                                              X.d (Ty.int IntKind.i64) i]
                                            []
                                        else
                                          k Ex.normal
                                            [X.sl cmdT a na false, X.sl cmdT b nb false, X.d Ty.bool z,
                                              X.d (Ty.int IntKind.i64) (A.wrap IntKind.i64 (i + (1 : Int)))]
                                            []
                                      else none
                                    else none
                                  else
                                    k Ex.ret
                                      [X.sl cmdT a na false, X.sl cmdT b nb false, X.d Ty.bool false,
                                        X.d (Ty.int IntKind.i64) i]
                                      []
                                else none
                              else none
                            else
                              k Ex.ret
                                [X.sl cmdT a na false, X.sl cmdT b nb false, X.d Ty.bool false, X.d (Ty.int IntKind.i64) i]
                                []
                          else none
                        else none
                      else
                        k Ex.ret [X.sl cmdT a na false, X.sl cmdT b nb false, X.d Ty.bool false, X.d (Ty.int IntKind.i64) i]
                          []
                    else none
                  else none
                else k Ex.ret [X.sl cmdT a na false, X.sl cmdT b nb false, X.d Ty.bool false, X.d (Ty.int IntKind.i64) i] []
              else none
            else none
          else k Ex.ret [X.sl cmdT a na false, X.sl cmdT b nb false, X.d Ty.bool false, X.d (Ty.int IntKind.i64) i] []
        else none
      else none
    else k (Ex.exit (0 : Nat)) [X.sl cmdT a na false, X.sl cmdT b nb false, X.d Ty.bool z, X.d (Ty.int IntKind.i64) i] []) := by kernel_rfl
theorem tText (A : Ar) (t : List Int) (nt : Option Bool) (b : List Int) (nb ok : Bool) (H : Hp) : bodyX (Cx A (OscA A) noL) 100 Try.f20 [.ptr 0 [], .sl (.int .u8) t nt false] ((bytT, .agg [u8s b (some nb) true, boolx ok]) :: H) =
    (bif
        A.se
          (isU64 (A.wrap IntKind.u64 (↑(List.length t) : Int)) &&
            (decide (List.length b ≤ (100000000 : Nat)) && nlO (some nb) b)) then
      bif
          decide
            ((List.length (A.se (b ++ vb (Int.toNat (A.wrap IntKind.u64 (↑(List.length t) : Int))))) + List.length t) *
                (1 : Nat) ≤
              (140737488355328 : Nat)) then
        some
          (X.tup [],
            (bytT,
                X.agg
                  [X.sl (Ty.int IntKind.u8) (A.se (b ++ vb (Int.toNat (A.wrap IntKind.u64 (↑(List.length t) : Int)))) ++ t)
                      (some (false && List.isEmpty t)) true,
                    X.d Ty.bool ok]) ::
              H)
      else none
    else none) := by kernel_rfl
theorem tNumber (A : Ar) (n : Int) (b : List Int) (nb ok : Bool) (H : Hp) : bodyX (Cx A (OscA A) noL) 100 Try.f21 [.ptr 0 [], u64x n] ((bytT, .agg [u8s b (some nb) true, boolx ok]) :: H) =
    (bif A.se (isU64 n && (decide (List.length b ≤ (100000000 : Nat)) && nlO (some nb) b)) then
      some
        (X.tup [],
          (bytT, X.agg [X.sl (Ty.int IntKind.u8) (A.se (b ++ vb (Int.toNat n))) (some false) true, X.d Ty.bool ok]) :: H)
    else none) := by kernel_rfl
theorem tRtext (A : Ar) (t : List Int) (nt : Option Bool) (b : List Int) (nb : Bool) : bodyX (Cx A (OscA A) noL) 100 Try.f23 [u8s b (some nb) false, .sl (.int .u8) t nt false] [] =
    (bif
        A.se
          (isU64 (A.wrap IntKind.u64 (↑(List.length t) : Int)) &&
            (decide (List.length b ≤ (100000000 : Nat)) && nlO (some nb) b)) then
      bif
          decide
            ((List.length (A.se (b ++ vb (Int.toNat (A.wrap IntKind.u64 (↑(List.length t) : Int))))) + List.length t) *
                (1 : Nat) ≤
              (140737488355328 : Nat)) then
        some
          (X.sl (Ty.int IntKind.u8) (A.se (b ++ vb (Int.toNat (A.wrap IntKind.u64 (↑(List.length t) : Int)))) ++ t)
              (some (false && List.isEmpty t)) true,
            [])
      else none
    else none) := by kernel_rfl
end Go.Proofs.Ytgickaihlebgmaa.V
