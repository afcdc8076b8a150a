/-
  Chapter 05, numbers: each function's tree. By program; each equation is checked by the kernel.
  It speaks of the pinned program alone; no condition.
-/
import Derived.Test.YtlikejlgpfhkfaaDoorNu3
namespace Go.Proofs.YtlikejlgpfhkfaaDoor.V
open Go
set_option linter.unusedVariables false
set_option linter.unusedSimpArgs false

theorem tAppend (A : Ar) (c b : Int) : bodyX (Cx A (On1 A) noL) 100 Tryd.f14 [.sl (.int .u8) [] (some true) true, u64x c, i64x b] [] =
    (bif A.se (isU64 c && decide (b = (10 : Int))) then
      some (X.sl (Ty.int IntKind.u8) (A.se (digs (Int.toNat c))) (some false) true, [])
    else none) := by kernel_rfl
theorem tWrite (A : Ar) (c : Int) : bodyX (Cx A (On2 A) noL) 100 Tryd.f11 [u64x c] [] =
    (bif A.se (isU64 c && decide ((10 : Int) = (10 : Int))) then
      some (X.sl (Ty.int IntKind.u8) (A.se (digs (Int.toNat c))) (some false) true, [])
    else none) := by kernel_rfl
theorem tRefW (A : Ar) (n : Nat) (c : Int) : bodyX (Cx A (Orw A n) noL) 100 Tryd.f12 [u64x c] [] =
    (bif decide (c < (10 : Int)) then
      some (X.sl (Ty.int IntKind.u8) [A.wrap IntKind.u8 (A.wrap IntKind.u64 ((48 : Int) + c))] (some false) true, [])
    else
      bif
          A.se
            (isU64 (A.wrap IntKind.u64 (Int.tdiv c (10 : Int))) &&
              decide (Int.toNat (A.wrap IntKind.u64 (Int.tdiv c (10 : Int))) < n)) then
        bif
            decide
              ((List.length (A.se (digs (Int.toNat (A.wrap IntKind.u64 (Int.tdiv c (10 : Int)))))) +
                    List.length [A.wrap IntKind.u8 (A.wrap IntKind.u64 ((48 : Int) + Int.tmod c (10 : Int)))]) *
                  (1 : Nat) ≤
                (140737488355328 : Nat)) then
          some
            (X.sl (Ty.int IntKind.u8)
                (A.se (digs (Int.toNat (A.wrap IntKind.u64 (Int.tdiv c (10 : Int))))) ++
                  [A.wrap IntKind.u8 (A.wrap IntKind.u64 ((48 : Int) + Int.tmod c (10 : Int)))])
                (some (false && List.isEmpty [A.wrap IntKind.u8 (A.wrap IntKind.u64 ((48 : Int) + Int.tmod c (10 : Int)))]))
                true,
              [])
        else none
      else none) := by kernel_rfl
theorem lRead (A : Ar) (R : Type) (b : List Int) (nl : Option Bool) (s : ByteArray) (p : Int) (k : Ex → List X → Hp → Option R) : stepF (Cx A (On5 A) (Lread A)) 100 (loopAt Tryd.f9 0) 41 [0, 9] [u8s b nl false, .ptr 0 []] [(.unit, iterX s p)] k =
    (bif decide (p < (↑(ByteArray.size s) : Int)) then
      bif decide (runeAt s p < (48 : Int)) == false then
        bif decide (runeAt s p > (57 : Int)) then
          k (Ex.goto (0 : Nat)) [X.sl (Ty.int IntKind.u8) b nl false, X.ptr (0 : Nat) []]
            [(Ty.unit, X.tup [X.d Ty.str s, X.d (Ty.int IntKind.i64) (p + widthAt s p)])]
        else
          k Ex.normal [X.sl (Ty.int IntKind.u8) b nl false, X.ptr (0 : Nat) []]
            [(Ty.unit, X.tup [X.d Ty.str s, X.d (Ty.int IntKind.i64) (p + widthAt s p)])]
      else
        k (Ex.goto (0 : Nat)) [X.sl (Ty.int IntKind.u8) b nl false, X.ptr (0 : Nat) []]
          [(Ty.unit, X.tup [X.d Ty.str s, X.d (Ty.int IntKind.i64) (p + widthAt s p)])]
    else
      k (Ex.exit (0 : Nat)) [X.sl (Ty.int IntKind.u8) b nl false, X.ptr (0 : Nat) []]
        [(Ty.unit, X.tup [X.d Ty.str s, X.d (Ty.int IntKind.i64) p])]) := by kernel_rfl
theorem tRead (A : Ar) (b : List Int) (nl : Option Bool) : bodyX (Cx A (On5 A) (Lread A)) 100 Tryd.f9 [u8s b nl false] [] =
    (bif
        A.se
          (decide
            ((0 : Int) ≤ (0 : Int) ∧
              (0 : Int) ≤ (↑(ByteArray.size (strOf b)) : Int) ∧
                ByteArray.size (strOf b) ≤ (1000000000 : Nat) ∧ bytesB b = true ∧ strOf b = strOf b)) then
      bif A.se (scan (strOf b) (0 : Int)).fst then
        bif decide ((↑(List.length b) : Int) > (1 : Int)) == true then
          bif decide ((0 : Int) ≤ (0 : Int) ∧ (0 : Int) < (↑(List.length b) : Int)) then
            bif List.getD b (Int.toNat (0 : Int)) (0 : Int) == (48 : Int) then
              some
                (X.tup [X.d (Ty.int IntKind.u64) (0 : Int), X.d (Ty.int IntKind.i64) (50 : Int)],
                  [(Ty.unit, X.tup [X.d Ty.str (strOf b), X.d (Ty.int IntKind.i64) (A.se (scan (strOf b) (0 : Int)).snd)])])
            else
              bif
                  A.se
                    (decide
                      ((10 : Int) = (10 : Int) ∧
                        (64 : Int) = (64 : Int) ∧
                          ByteArray.size (strOf b) ≤ (281474976710656 : Nat))) then
                bif A.se (puE (strOf b)) == true then
                  bif decide (A.se (puV (strOf b)) < (18446744073709551615 : Int)) then
                    some
                      (X.tup [X.d (Ty.int IntKind.u64) (A.se (puV (strOf b))), X.d (Ty.int IntKind.i64) (0 : Int)],
                        [(Ty.unit,
                            X.tup [X.d Ty.str (strOf b), X.d (Ty.int IntKind.i64) (A.se (scan (strOf b) (0 : Int)).snd)])])
                  else
                    some
                      (X.tup [X.d (Ty.int IntKind.u64) (0 : Int), X.d (Ty.int IntKind.i64) (50 : Int)],
                        [(Ty.unit,
                            X.tup [X.d Ty.str (strOf b), X.d (Ty.int IntKind.i64) (A.se (scan (strOf b) (0 : Int)).snd)])])
                else
                  some
                    (X.tup [X.d (Ty.int IntKind.u64) (0 : Int), X.d (Ty.int IntKind.i64) (50 : Int)],
                      [(Ty.unit,
                          X.tup [X.d Ty.str (strOf b), X.d (Ty.int IntKind.i64) (A.se (scan (strOf b) (0 : Int)).snd)])])
              else none
          else none
        else
          bif
              A.se
                (decide
                  ((10 : Int) = (10 : Int) ∧
                    (64 : Int) = (64 : Int) ∧
                      ByteArray.size (strOf b) ≤ (281474976710656 : Nat))) then
            bif A.se (puE (strOf b)) == true then
              bif decide (A.se (puV (strOf b)) < (18446744073709551615 : Int)) then
                some
                  (X.tup [X.d (Ty.int IntKind.u64) (A.se (puV (strOf b))), X.d (Ty.int IntKind.i64) (0 : Int)],
                    [(Ty.unit,
                        X.tup [X.d Ty.str (strOf b), X.d (Ty.int IntKind.i64) (A.se (scan (strOf b) (0 : Int)).snd)])])
              else
                some
                  (X.tup [X.d (Ty.int IntKind.u64) (0 : Int), X.d (Ty.int IntKind.i64) (50 : Int)],
                    [(Ty.unit,
                        X.tup [X.d Ty.str (strOf b), X.d (Ty.int IntKind.i64) (A.se (scan (strOf b) (0 : Int)).snd)])])
            else
              some
                (X.tup [X.d (Ty.int IntKind.u64) (0 : Int), X.d (Ty.int IntKind.i64) (50 : Int)],
                  [(Ty.unit, X.tup [X.d Ty.str (strOf b), X.d (Ty.int IntKind.i64) (A.se (scan (strOf b) (0 : Int)).snd)])])
          else none
      else
        some
          (X.tup [X.d (Ty.int IntKind.u64) (0 : Int), X.d (Ty.int IntKind.i64) (50 : Int)],
            [(Ty.unit, X.tup [X.d Ty.str (strOf b), X.d (Ty.int IntKind.i64) (A.se (scan (strOf b) (0 : Int)).snd)])])
    else none) := by kernel_rfl
theorem lRef (A : Ar) (R : Type) (b : List Int) (nl : Option Bool) (c i : Int) (k : Ex → List X → Hp → Option R) : stepF (Cx A (On6 A) (Lref A)) 100 (loopAt Tryd.f10 0) 52 [0, 2, 3, 4, 5] [u8s b nl false, u64x 0, i64x 0, u64x c, i64x i] [] k =
    (bif decide (i < (↑(List.length b) : Int)) then
      bif decide ((0 : Int) ≤ i ∧ i < (↑(List.length b) : Int)) then
        bif decide (List.getD b (Int.toNat i) (0 : Int) < (48 : Int)) == false then
          bif decide ((0 : Int) ≤ i ∧ i < (↑(List.length b) : Int)) then
            bif decide (List.getD b (Int.toNat i) (0 : Int) > (57 : Int)) then
              k Ex.ret
                [X.sl (Ty.int IntKind.u8) b nl false, X.d (Ty.int IntKind.u64) (0 : Int),
                  X.d (Ty.int IntKind.i64) (50 : Int), X.d (Ty.int IntKind.u64) c, X.d (Ty.int IntKind.i64) i]
                []
            else
              bif decide ((0 : Int) ≤ i ∧ i < (↑(List.length b) : Int)) then
                k Ex.normal
                  [X.sl (Ty.int IntKind.u8) b nl false, X.d (Ty.int IntKind.u64) (0 : Int),
                    X.d (Ty.int IntKind.i64) (0 : Int),
                    X.d (Ty.int IntKind.u64)
                      (A.wrap IntKind.u64
                        (A.wrap IntKind.u64 (c * (10 : Int)) +
                          A.wrap IntKind.u64
                            (A.wrap IntKind.u8 (List.getD b (Int.toNat i) (0 : Int) - (48 : Int))))),
                    X.d (Ty.int IntKind.i64) (A.wrap IntKind.i64 (i + (1 : Int)))]
                  []
              else none
          else none
        else
          k Ex.ret
            [X.sl (Ty.int IntKind.u8) b nl false, X.d (Ty.int IntKind.u64) (0 : Int), X.d (Ty.int IntKind.i64) (50 : Int),
              X.d (Ty.int IntKind.u64) c, X.d (Ty.int IntKind.i64) i]
            []
      else none
    else
      k (Ex.exit (0 : Nat))
        [X.sl (Ty.int IntKind.u8) b nl false, X.d (Ty.int IntKind.u64) (0 : Int), X.d (Ty.int IntKind.i64) (0 : Int),
          X.d (Ty.int IntKind.u64) c, X.d (Ty.int IntKind.i64) i]
        []) := by kernel_rfl
theorem tRef (A : Ar) (b : List Int) (nl : Option Bool) : bodyX (Cx A (On6 A) (Lref A)) 100 Tryd.f10 [u8s b nl false] [] =
    (bif ((↑(List.length b) : Int) == (0 : Int)) == false then
      bif decide ((↑(List.length b) : Int) > (20 : Int)) then
        some (X.tup [X.d (Ty.int IntKind.u64) (0 : Int), X.d (Ty.int IntKind.i64) (50 : Int)], [])
      else
        bif
            A.se
              (bytesB b &&
                  decide
                    (List.length b ≤ (20 : Nat) ∧
                      (0 : Int) ≤ (0 : Int) ∧
                        (0 : Int) ≤ (↑(List.length b) : Int) ∧ (0 : Int) = (0 : Int) ∧ (0 : Int) = (0 : Int)) &&
                isU64 (0 : Int)) then
          bif A.se (allDig (List.drop (Int.toNat (0 : Int)) b)) then
            bif A.se (isU64 (A.se (accR (0 : Int) (List.drop (Int.toNat (0 : Int)) b)))) then
              bif
                  (!A.seq (strOf (A.se (digs (Int.toNat (A.se (accR (0 : Int) (List.drop (Int.toNat (0 : Int)) b)))))))
                        (strOf b)) ==
                    false then
                bif A.se (accR (0 : Int) (List.drop (Int.toNat (0 : Int)) b)) == (18446744073709551615 : Int) then
                  some (X.tup [X.d (Ty.int IntKind.u64) (0 : Int), X.d (Ty.int IntKind.i64) (50 : Int)], [])
                else
                  some
                    (X.tup
                        [X.d (Ty.int IntKind.u64) (A.se (accR (0 : Int) (List.drop (Int.toNat (0 : Int)) b))),
                          X.d (Ty.int IntKind.i64) (0 : Int)],
                      [])
              else some (X.tup [X.d (Ty.int IntKind.u64) (0 : Int), X.d (Ty.int IntKind.i64) (50 : Int)], [])
            else none
          else some (X.tup [X.d (Ty.int IntKind.u64) (0 : Int), X.d (Ty.int IntKind.i64) (50 : Int)], [])
        else none
    else some (X.tup [X.d (Ty.int IntKind.u64) (0 : Int), X.d (Ty.int IntKind.i64) (50 : Int)], [])) := by kernel_rfl
theorem tAwake (A : Ar) : bodyX (Cx A (On7 A) noL) 100 Tryd.f8 [] [] =
    (bif A.se (bytesB [(49 : Int), (48 : Int)] && decide (List.length [(49 : Int), (48 : Int)] ≤ (1000000000 : Nat))) then
      bif A.se (bytesB [(48 : Int), (49 : Int)] && decide (List.length [(48 : Int), (49 : Int)] ≤ (1000000000 : Nat))) then
        bif
            A.se
              (bytesB
                  [(49 : Int), (56 : Int), (52 : Int), (52 : Int), (54 : Int), (55 : Int), (52 : Int), (52 : Int),
                    (48 : Int), (55 : Int), (51 : Int), (55 : Int), (48 : Int), (57 : Int), (53 : Int), (53 : Int),
                    (49 : Int), (54 : Int), (49 : Int), (53 : Int)] &&
                decide
                  (List.length
                      [(49 : Int), (56 : Int), (52 : Int), (52 : Int), (54 : Int), (55 : Int), (52 : Int), (52 : Int),
                        (48 : Int), (55 : Int), (51 : Int), (55 : Int), (48 : Int), (57 : Int), (53 : Int), (53 : Int),
                        (49 : Int), (54 : Int), (49 : Int), (53 : Int)] ≤
                    (1000000000 : Nat))) then
          bif
              A.se
                (bytesB
                    [(49 : Int), (56 : Int), (52 : Int), (52 : Int), (54 : Int), (55 : Int), (52 : Int), (52 : Int),
                      (48 : Int), (55 : Int), (51 : Int), (55 : Int), (48 : Int), (57 : Int), (53 : Int), (53 : Int),
                      (49 : Int), (54 : Int), (49 : Int), (52 : Int)] &&
                  decide
                    (List.length
                        [(49 : Int), (56 : Int), (52 : Int), (52 : Int), (54 : Int), (55 : Int), (52 : Int), (52 : Int),
                          (48 : Int), (55 : Int), (51 : Int), (55 : Int), (48 : Int), (57 : Int), (53 : Int), (53 : Int),
                          (49 : Int), (54 : Int), (49 : Int), (52 : Int)] ≤
                      (1000000000 : Nat))) then
            bif A.se (bytesB [] && decide ((0 : Nat) ≤ (1000000000 : Nat))) then
              bif A.se (isU64 (305 : Int)) then
                bif
                    A.seq (strOf (A.se (digs (Int.toNat (305 : Int)))))
                        { data := #[(51 : UInt8), (48 : UInt8), (53 : UInt8)] } ==
                      true then
                  bif A.se (isU64 (0 : Int)) then
                    bif A.seq (strOf (A.se (digs (Int.toNat (0 : Int))))) { data := #[(48 : UInt8)] } == true then
                      bif (A.se (readC [(49 : Int), (48 : Int)]) == (10 : Int)) == true then
                        bif (A.se (readE [(49 : Int), (48 : Int)]) == (0 : Int)) == true then
                          bif (A.se (readE [(48 : Int), (49 : Int)]) == (50 : Int)) == true then
                            bif
                                (A.se
                                      (readE
                                        [(49 : Int), (56 : Int), (52 : Int), (52 : Int), (54 : Int), (55 : Int), (52 : Int),
                                          (52 : Int), (48 : Int), (55 : Int), (51 : Int), (55 : Int), (48 : Int),
                                          (57 : Int), (53 : Int), (53 : Int), (49 : Int), (54 : Int), (49 : Int),
                                          (53 : Int)]) ==
                                    (50 : Int)) ==
                                  true then
                              bif
                                  (A.se
                                        (readC
                                          [(49 : Int), (56 : Int), (52 : Int), (52 : Int), (54 : Int), (55 : Int),
                                            (52 : Int), (52 : Int), (48 : Int), (55 : Int), (51 : Int), (55 : Int),
                                            (48 : Int), (57 : Int), (53 : Int), (53 : Int), (49 : Int), (54 : Int),
                                            (49 : Int), (52 : Int)]) ==
                                      (18446744073709551614 : Int)) ==
                                    true then
                                bif
                                    (A.se
                                          (readE
                                            [(49 : Int), (56 : Int), (52 : Int), (52 : Int), (54 : Int), (55 : Int),
                                              (52 : Int), (52 : Int), (48 : Int), (55 : Int), (51 : Int), (55 : Int),
                                              (48 : Int), (57 : Int), (53 : Int), (53 : Int), (49 : Int), (54 : Int),
                                              (49 : Int), (52 : Int)]) ==
                                        (0 : Int)) ==
                                      true then
                                  bif A.se (readE []) == (50 : Int) then some (X.d Ty.bool true, [])
                                  else some (X.d Ty.bool false, [])
                                else some (X.d Ty.bool false, [])
                              else some (X.d Ty.bool false, [])
                            else some (X.d Ty.bool false, [])
                          else some (X.d Ty.bool false, [])
                        else some (X.d Ty.bool false, [])
                      else some (X.d Ty.bool false, [])
                    else some (X.d Ty.bool false, [])
                  else none
                else some (X.d Ty.bool false, [])
              else none
            else none
          else none
        else none
      else none
    else none) := by kernel_rfl
theorem tTells (A : Ar) (c : Int) (b : List Int) (nl : Option Bool) : bodyX (Cx A (On8 A) noL) 100 Tryd.f3 [u64x c, u8s b nl false] [] =
    (bif decide ((↑(List.length b) : Int) > (100 : Int)) then some (X.d Ty.bool true, [])
    else
      bif A.se (bytesB b && decide (List.length b ≤ (1000000000 : Nat))) then
        bif A.se (bytesB b && decide (List.length b ≤ (1000000000 : Nat))) then
          bif A.se (isU64 c) then
            bif A.se (isU64 c) then
              bif A.seq (strOf (A.se (digs (Int.toNat c)))) (strOf (A.se (digs (Int.toNat c)))) == true then
                bif (A.se (readC b) == A.se (readC b)) == true then
                  some (X.d Ty.bool (A.se (readE b) == A.se (readE b)), [])
                else some (X.d Ty.bool false, [])
              else some (X.d Ty.bool false, [])
            else none
          else none
        else none
      else none) := by kernel_rfl
theorem tBack (A : Ar) (c : Int) (b : List Int) (nl : Option Bool) : bodyX (Cx A (On8 A) noL) 100 Tryd.f4 [u64x c, u8s b nl false] [] =
    (bif decide ((↑(List.length b) : Int) > (100 : Int)) then some (X.d Ty.bool true, [])
    else
      bif A.se (isU64 c) then
        bif
            A.se
              (bytesB (A.se (digs (Int.toNat c))) &&
                decide (List.length (A.se (digs (Int.toNat c))) ≤ (1000000000 : Nat))) then
          bif A.se (bytesB b && decide (List.length b ≤ (1000000000 : Nat))) then
            bif
                decide
                  ((List.length [(48 : Int)] + List.length (A.se (digs (Int.toNat c)))) * (1 : Nat) ≤
                    (140737488355328 : Nat)) then
              bif
                  A.se
                    (bytesB ([(48 : Int)] ++ A.se (digs (Int.toNat c))) &&
                      decide (List.length ([(48 : Int)] ++ A.se (digs (Int.toNat c))) ≤ (1000000000 : Nat))) then
                bif (c == (18446744073709551615 : Int)) == true then
                  bif (A.se (readE (A.se (digs (Int.toNat c)))) == (50 : Int)) == false then
                    bif decide (c < (18446744073709551615 : Int)) == true then
                      bif (A.se (readE (A.se (digs (Int.toNat c)))) == (0 : Int)) == true then
                        bif (A.se (readC (A.se (digs (Int.toNat c)))) == c) == true then
                          bif (A.se (readE b) != (0 : Int)) == true then
                            bif (A.se (readC b) == (0 : Int)) == false then
                              bif (A.se (readE b) == (0 : Int)) == true then
                                bif A.se (isU64 (A.se (readC b))) then
                                  bif A.seq (strOf (A.se (digs (Int.toNat (A.se (readC b)))))) (strOf b) == true then
                                    some
                                      (X.d Ty.bool (A.se (readE ([(48 : Int)] ++ A.se (digs (Int.toNat c)))) == (50 : Int)),
                                        [])
                                  else some (X.d Ty.bool false, [])
                                else none
                              else some (X.d Ty.bool false, [])
                            else
                              some
                                (X.d Ty.bool (A.se (readE ([(48 : Int)] ++ A.se (digs (Int.toNat c)))) == (50 : Int)), [])
                          else
                            bif (A.se (readE b) == (0 : Int)) == true then
                              bif A.se (isU64 (A.se (readC b))) then
                                bif A.seq (strOf (A.se (digs (Int.toNat (A.se (readC b)))))) (strOf b) == true then
                                  some
                                    (X.d Ty.bool (A.se (readE ([(48 : Int)] ++ A.se (digs (Int.toNat c)))) == (50 : Int)),
                                      [])
                                else some (X.d Ty.bool false, [])
                              else none
                            else some (X.d Ty.bool false, [])
                        else some (X.d Ty.bool false, [])
                      else some (X.d Ty.bool false, [])
                    else some (X.d Ty.bool false, [])
                  else
                    bif (A.se (readE b) != (0 : Int)) == true then
                      bif (A.se (readC b) == (0 : Int)) == false then
                        bif (A.se (readE b) == (0 : Int)) == true then
                          bif A.se (isU64 (A.se (readC b))) then
                            bif A.seq (strOf (A.se (digs (Int.toNat (A.se (readC b)))))) (strOf b) == true then
                              some
                                (X.d Ty.bool (A.se (readE ([(48 : Int)] ++ A.se (digs (Int.toNat c)))) == (50 : Int)), [])
                            else some (X.d Ty.bool false, [])
                          else none
                        else some (X.d Ty.bool false, [])
                      else some (X.d Ty.bool (A.se (readE ([(48 : Int)] ++ A.se (digs (Int.toNat c)))) == (50 : Int)), [])
                    else
                      bif (A.se (readE b) == (0 : Int)) == true then
                        bif A.se (isU64 (A.se (readC b))) then
                          bif A.seq (strOf (A.se (digs (Int.toNat (A.se (readC b)))))) (strOf b) == true then
                            some (X.d Ty.bool (A.se (readE ([(48 : Int)] ++ A.se (digs (Int.toNat c)))) == (50 : Int)), [])
                          else some (X.d Ty.bool false, [])
                        else none
                      else some (X.d Ty.bool false, [])
                else
                  bif decide (c < (18446744073709551615 : Int)) == true then
                    bif (A.se (readE (A.se (digs (Int.toNat c)))) == (0 : Int)) == true then
                      bif (A.se (readC (A.se (digs (Int.toNat c)))) == c) == true then
                        bif (A.se (readE b) != (0 : Int)) == true then
                          bif (A.se (readC b) == (0 : Int)) == false then
                            bif (A.se (readE b) == (0 : Int)) == true then
                              bif A.se (isU64 (A.se (readC b))) then
                                bif A.seq (strOf (A.se (digs (Int.toNat (A.se (readC b)))))) (strOf b) == true then
                                  some
                                    (X.d Ty.bool (A.se (readE ([(48 : Int)] ++ A.se (digs (Int.toNat c)))) == (50 : Int)),
                                      [])
                                else some (X.d Ty.bool false, [])
                              else none
                            else some (X.d Ty.bool false, [])
                          else
                            some (X.d Ty.bool (A.se (readE ([(48 : Int)] ++ A.se (digs (Int.toNat c)))) == (50 : Int)), [])
                        else
                          bif (A.se (readE b) == (0 : Int)) == true then
                            bif A.se (isU64 (A.se (readC b))) then
                              bif A.seq (strOf (A.se (digs (Int.toNat (A.se (readC b)))))) (strOf b) == true then
                                some
                                  (X.d Ty.bool (A.se (readE ([(48 : Int)] ++ A.se (digs (Int.toNat c)))) == (50 : Int)), [])
                              else some (X.d Ty.bool false, [])
                            else none
                          else some (X.d Ty.bool false, [])
                      else some (X.d Ty.bool false, [])
                    else some (X.d Ty.bool false, [])
                  else some (X.d Ty.bool false, [])
              else none
            else none
          else none
        else none
      else none) := by kernel_rfl
theorem tOrder (A : Ar) (a b d : Int) : bodyX (Cx A (On8 A) noL) 100 Tryd.f5 [u64x a, u64x b, u8x d] [] =
    (bif A.se (isU64 a) then
      bif A.se (isU64 b) then
        bif
            decide
                ((↑(List.length (A.se (digs (Int.toNat a)))) : Int) < (↑(List.length (A.se (digs (Int.toNat b)))) : Int)) ==
              false then
          bif
              ((↑(List.length (A.se (digs (Int.toNat a)))) : Int) == (↑(List.length (A.se (digs (Int.toNat b)))) : Int)) ==
                true then
            bif Int.tmod a (1000000000000000000 : Int) == (0 : Int) then
              some
                (X.d Ty.bool
                    (A.slt (strOf (A.se (digs (Int.toNat a)))) (strOf (A.se (digs (Int.toNat b)))) == decide (a < b)),
                  [])
            else
              bif A.se (isU64 (Int.tmod a (1000000000000000000 : Int))) then
                bif
                    decide
                      ((List.length (A.se (digs (Int.toNat (Int.tmod a (1000000000000000000 : Int))))) +
                            List.length [A.wrap IntKind.u8 ((48 : Int) + Int.tmod d (10 : Int))]) *
                          (1 : Nat) ≤
                        (140737488355328 : Nat)) then
                  bif
                      A.se
                        (bytesB
                            (A.se (digs (Int.toNat (Int.tmod a (1000000000000000000 : Int)))) ++
                              [A.wrap IntKind.u8 ((48 : Int) + Int.tmod d (10 : Int))]) &&
                          decide
                            (List.length
                                (A.se (digs (Int.toNat (Int.tmod a (1000000000000000000 : Int)))) ++
                                  [A.wrap IntKind.u8 ((48 : Int) + Int.tmod d (10 : Int))]) ≤
                              (1000000000 : Nat))) then
                    bif
                        (A.slt (strOf (A.se (digs (Int.toNat a)))) (strOf (A.se (digs (Int.toNat b)))) == decide (a < b)) ==
                          true then
                      bif
                          (A.se
                                (readE
                                  (A.se (digs (Int.toNat (Int.tmod a (1000000000000000000 : Int)))) ++
                                    [A.wrap IntKind.u8 ((48 : Int) + Int.tmod d (10 : Int))])) ==
                              (0 : Int)) ==
                            true then
                        some
                          (X.d Ty.bool
                              (A.se
                                  (readC
                                    (A.se (digs (Int.toNat (Int.tmod a (1000000000000000000 : Int)))) ++
                                      [A.wrap IntKind.u8 ((48 : Int) + Int.tmod d (10 : Int))])) ==
                                A.wrap IntKind.u64
                                  (A.wrap IntKind.u64 ((10 : Int) * Int.tmod a (1000000000000000000 : Int)) +
                                    A.wrap IntKind.u64 (Int.tmod d (10 : Int)))),
                            [])
                      else some (X.d Ty.bool false, [])
                    else some (X.d Ty.bool false, [])
                  else none
                else none
              else none
          else
            bif Int.tmod a (1000000000000000000 : Int) == (0 : Int) then some (X.d Ty.bool (false == decide (a < b)), [])
            else
              bif A.se (isU64 (Int.tmod a (1000000000000000000 : Int))) then
                bif
                    decide
                      ((List.length (A.se (digs (Int.toNat (Int.tmod a (1000000000000000000 : Int))))) +
                            List.length [A.wrap IntKind.u8 ((48 : Int) + Int.tmod d (10 : Int))]) *
                          (1 : Nat) ≤
                        (140737488355328 : Nat)) then
                  bif
                      A.se
                        (bytesB
                            (A.se (digs (Int.toNat (Int.tmod a (1000000000000000000 : Int)))) ++
                              [A.wrap IntKind.u8 ((48 : Int) + Int.tmod d (10 : Int))]) &&
                          decide
                            (List.length
                                (A.se (digs (Int.toNat (Int.tmod a (1000000000000000000 : Int)))) ++
                                  [A.wrap IntKind.u8 ((48 : Int) + Int.tmod d (10 : Int))]) ≤
                              (1000000000 : Nat))) then
                    bif (false == decide (a < b)) == true then
                      bif
                          (A.se
                                (readE
                                  (A.se (digs (Int.toNat (Int.tmod a (1000000000000000000 : Int)))) ++
                                    [A.wrap IntKind.u8 ((48 : Int) + Int.tmod d (10 : Int))])) ==
                              (0 : Int)) ==
                            true then
                        some
                          (X.d Ty.bool
                              (A.se
                                  (readC
                                    (A.se (digs (Int.toNat (Int.tmod a (1000000000000000000 : Int)))) ++
                                      [A.wrap IntKind.u8 ((48 : Int) + Int.tmod d (10 : Int))])) ==
                                A.wrap IntKind.u64
                                  (A.wrap IntKind.u64 ((10 : Int) * Int.tmod a (1000000000000000000 : Int)) +
                                    A.wrap IntKind.u64 (Int.tmod d (10 : Int)))),
                            [])
                      else some (X.d Ty.bool false, [])
                    else some (X.d Ty.bool false, [])
                  else none
                else none
              else none
        else
          bif Int.tmod a (1000000000000000000 : Int) == (0 : Int) then some (X.d Ty.bool (true == decide (a < b)), [])
          else
            bif A.se (isU64 (Int.tmod a (1000000000000000000 : Int))) then
              bif
                  decide
                    ((List.length (A.se (digs (Int.toNat (Int.tmod a (1000000000000000000 : Int))))) +
                          List.length [A.wrap IntKind.u8 ((48 : Int) + Int.tmod d (10 : Int))]) *
                        (1 : Nat) ≤
                      (140737488355328 : Nat)) then
                bif
                    A.se
                      (bytesB
                          (A.se (digs (Int.toNat (Int.tmod a (1000000000000000000 : Int)))) ++
                            [A.wrap IntKind.u8 ((48 : Int) + Int.tmod d (10 : Int))]) &&
                        decide
                          (List.length
                              (A.se (digs (Int.toNat (Int.tmod a (1000000000000000000 : Int)))) ++
                                [A.wrap IntKind.u8 ((48 : Int) + Int.tmod d (10 : Int))]) ≤
                            (1000000000 : Nat))) then
                  bif (true == decide (a < b)) == true then
                    bif
                        (A.se
                              (readE
                                (A.se (digs (Int.toNat (Int.tmod a (1000000000000000000 : Int)))) ++
                                  [A.wrap IntKind.u8 ((48 : Int) + Int.tmod d (10 : Int))])) ==
                            (0 : Int)) ==
                          true then
                      some
                        (X.d Ty.bool
                            (A.se
                                (readC
                                  (A.se (digs (Int.toNat (Int.tmod a (1000000000000000000 : Int)))) ++
                                    [A.wrap IntKind.u8 ((48 : Int) + Int.tmod d (10 : Int))])) ==
                              A.wrap IntKind.u64
                                (A.wrap IntKind.u64 ((10 : Int) * Int.tmod a (1000000000000000000 : Int)) +
                                  A.wrap IntKind.u64 (Int.tmod d (10 : Int)))),
                          [])
                    else some (X.d Ty.bool false, [])
                  else some (X.d Ty.bool false, [])
                else none
              else none
            else none
      else none
    else none) := by kernel_rfl
theorem tWrong (A : Ar) (c a x : Int) : bodyX (CxM A (On8 A) noL Mwr) 100 Tryd.f6 [u64x c, u8x a, u8x x] [] =
    (bif A.se (isU64 c) then
      bif decide (x ≥ (48 : Int)) == true then
        bif decide (x ≤ (57 : Int)) then some (X.d Ty.bool true, [])
        else
          bif (↑(List.length (A.se (digs (Int.toNat c)))) : Int) == (0 : Int) then some (X.d Ty.bool false, [])
          else
            bif decide ((↑(List.length (A.se (digs (Int.toNat c)))) : Int) = (0 : Int)) then none
            else
              bif decide (((0 : Nat) + List.length (A.se (digs (Int.toNat c)))) * (1 : Nat) ≤ (140737488355328 : Nat)) then
                bif List.isEmpty ([] ++ A.se (digs (Int.toNat c))) then
                  bif
                      decide
                        ((0 : Int) ≤ Int.tmod (A.wrap IntKind.i64 a) (↑(List.length (A.se (digs (Int.toNat c)))) : Int) ∧
                          Int.tmod (A.wrap IntKind.i64 a) (↑(List.length (A.se (digs (Int.toNat c)))) : Int) <
                            (↑(List.length ([] ++ A.se (digs (Int.toNat c)))) : Int)) then
                    none
                  else none
                else
                  bif
                      decide
                        ((0 : Int) ≤ Int.tmod (A.wrap IntKind.i64 a) (↑(List.length (A.se (digs (Int.toNat c)))) : Int) ∧
                          Int.tmod (A.wrap IntKind.i64 a) (↑(List.length (A.se (digs (Int.toNat c)))) : Int) <
                            (↑(List.length ([] ++ A.se (digs (Int.toNat c)))) : Int)) then
                    bif
                        A.se
                          (bytesB
                              (List.take (List.length ([] ++ A.se (digs (Int.toNat c))))
                                (List.drop (0 : Nat)
                                  (List.set ([] ++ A.se (digs (Int.toNat c)))
                                    ((0 : Nat) +
                                      Int.toNat
                                        (Int.tmod (A.wrap IntKind.i64 a)
                                          (↑(List.length (A.se (digs (Int.toNat c)))) : Int)))
                                    x))) &&
                            decide
                              (List.length
                                  (List.take (List.length ([] ++ A.se (digs (Int.toNat c))))
                                    (List.drop (0 : Nat)
                                      (List.set ([] ++ A.se (digs (Int.toNat c)))
                                        ((0 : Nat) +
                                          Int.toNat
                                            (Int.tmod (A.wrap IntKind.i64 a)
                                              (↑(List.length (A.se (digs (Int.toNat c)))) : Int)))
                                        x))) ≤
                                (1000000000 : Nat))) then
                      bif
                          decide
                            ((0 : Int) ≤
                                Int.tmod (A.wrap IntKind.i64 a) (↑(List.length (A.se (digs (Int.toNat c)))) : Int) ∧
                              Int.tmod (A.wrap IntKind.i64 a) (↑(List.length (A.se (digs (Int.toNat c)))) : Int) ≤
                                (↑(List.length (A.se (digs (Int.toNat c)))) : Int)) then
                        bif
                            decide
                              (((0 : Nat) +
                                    List.length
                                      (List.take
                                        (Int.toNat
                                          (Int.tmod (A.wrap IntKind.i64 a)
                                            (↑(List.length (A.se (digs (Int.toNat c)))) : Int)))
                                        (A.se (digs (Int.toNat c))))) *
                                  (1 : Nat) ≤
                                (140737488355328 : Nat)) then
                          bif
                              decide
                                ((List.length
                                        ([] ++
                                          List.take
                                            (Int.toNat
                                              (Int.tmod (A.wrap IntKind.i64 a)
                                                (↑(List.length (A.se (digs (Int.toNat c)))) : Int)))
                                            (A.se (digs (Int.toNat c)))) +
                                      List.length [x]) *
                                    (1 : Nat) ≤
                                  (140737488355328 : Nat)) then
                            bif
                                decide
                                  ((0 : Int) ≤
                                      Int.tmod (A.wrap IntKind.i64 a) (↑(List.length (A.se (digs (Int.toNat c)))) : Int) ∧
                                    Int.tmod (A.wrap IntKind.i64 a) (↑(List.length (A.se (digs (Int.toNat c)))) : Int) ≤
                                      (↑(List.length (A.se (digs (Int.toNat c)))) : Int)) then
                              bif
                                  decide
                                    ((List.length
                                            ([] ++
                                                List.take
                                                  (Int.toNat
                                                    (Int.tmod (A.wrap IntKind.i64 a)
                                                      (↑(List.length (A.se (digs (Int.toNat c)))) : Int)))
                                                  (A.se (digs (Int.toNat c))) ++
                                              [x]) +
                                          List.length
                                            (List.drop
                                              (Int.toNat
                                                (Int.tmod (A.wrap IntKind.i64 a)
                                                  (↑(List.length (A.se (digs (Int.toNat c)))) : Int)))
                                              (A.se (digs (Int.toNat c))))) *
                                        (1 : Nat) ≤
                                      (140737488355328 : Nat)) then
                                bif
                                    A.se
                                      (bytesB
                                          ([] ++
                                                List.take
                                                  (Int.toNat
                                                    (Int.tmod (A.wrap IntKind.i64 a)
                                                      (↑(List.length (A.se (digs (Int.toNat c)))) : Int)))
                                                  (A.se (digs (Int.toNat c))) ++
                                              [x] ++
                                            List.drop
                                              (Int.toNat
                                                (Int.tmod (A.wrap IntKind.i64 a)
                                                  (↑(List.length (A.se (digs (Int.toNat c)))) : Int)))
                                              (A.se (digs (Int.toNat c)))) &&
                                        decide
                                          (List.length
                                              ([] ++
                                                    List.take
                                                      (Int.toNat
                                                        (Int.tmod (A.wrap IntKind.i64 a)
                                                          (↑(List.length (A.se (digs (Int.toNat c)))) : Int)))
                                                      (A.se (digs (Int.toNat c))) ++
                                                  [x] ++
                                                List.drop
                                                  (Int.toNat
                                                    (Int.tmod (A.wrap IntKind.i64 a)
                                                      (↑(List.length (A.se (digs (Int.toNat c)))) : Int)))
                                                  (A.se (digs (Int.toNat c)))) ≤
                                            (1000000000 : Nat))) then
                                  bif
                                      decide
                                        (((0 : Nat) + List.length (A.se (digs (Int.toNat c)))) * (1 : Nat) ≤
                                          (140737488355328 : Nat)) then
                                    bif
                                        decide
                                          ((List.length ([] ++ A.se (digs (Int.toNat c))) + List.length [x]) * (1 : Nat) ≤
                                            (140737488355328 : Nat)) then
                                      bif
                                          A.se
                                            (bytesB ([] ++ A.se (digs (Int.toNat c)) ++ [x]) &&
                                              decide
                                                (List.length ([] ++ A.se (digs (Int.toNat c)) ++ [x]) ≤
                                                  (1000000000 : Nat))) then
                                        bif
                                            (A.se
                                                  (readE
                                                    (List.take (List.length ([] ++ A.se (digs (Int.toNat c))))
                                                      (List.drop (0 : Nat)
                                                        (List.set ([] ++ A.se (digs (Int.toNat c)))
                                                          ((0 : Nat) +
                                                            Int.toNat
                                                              (Int.tmod (A.wrap IntKind.i64 a)
                                                                (↑(List.length (A.se (digs (Int.toNat c)))) : Int)))
                                                          x)))) ==
                                                (50 : Int)) ==
                                              true then
                                          bif
                                              (A.se
                                                    (readE
                                                      ([] ++
                                                            List.take
                                                              (Int.toNat
                                                                (Int.tmod (A.wrap IntKind.i64 a)
                                                                  (↑(List.length (A.se (digs (Int.toNat c)))) : Int)))
                                                              (A.se (digs (Int.toNat c))) ++
                                                          [x] ++
                                                        List.drop
                                                          (Int.toNat
                                                            (Int.tmod (A.wrap IntKind.i64 a)
                                                              (↑(List.length (A.se (digs (Int.toNat c)))) : Int)))
                                                          (A.se (digs (Int.toNat c))))) ==
                                                  (50 : Int)) ==
                                                true then
                                            some
                                              (X.d Ty.bool
                                                  (A.se (readE ([] ++ A.se (digs (Int.toNat c)) ++ [x])) == (50 : Int)),
                                                [(Ty.arr (List.length ([] ++ A.se (digs (Int.toNat c))))
                                                      (Ty.int IntKind.u8),
                                                    X.dead)])
                                          else
                                            some
                                              (X.d Ty.bool false,
                                                [(Ty.arr (List.length ([] ++ A.se (digs (Int.toNat c))))
                                                      (Ty.int IntKind.u8),
                                                    X.dead)])
                                        else
                                          some
                                            (X.d Ty.bool false,
                                              [(Ty.arr (List.length ([] ++ A.se (digs (Int.toNat c)))) (Ty.int IntKind.u8),
                                                  X.dead)])
                                      else none
                                    else none
                                  else none
                                else none
                              else none
                            else none
                          else none
                        else none
                      else none
                    else none
                  else none
              else none
      else
        bif (↑(List.length (A.se (digs (Int.toNat c)))) : Int) == (0 : Int) then some (X.d Ty.bool false, [])
        else
          bif decide ((↑(List.length (A.se (digs (Int.toNat c)))) : Int) = (0 : Int)) then none
          else
            bif decide (((0 : Nat) + List.length (A.se (digs (Int.toNat c)))) * (1 : Nat) ≤ (140737488355328 : Nat)) then
              bif List.isEmpty ([] ++ A.se (digs (Int.toNat c))) then
                bif
                    decide
                      ((0 : Int) ≤ Int.tmod (A.wrap IntKind.i64 a) (↑(List.length (A.se (digs (Int.toNat c)))) : Int) ∧
                        Int.tmod (A.wrap IntKind.i64 a) (↑(List.length (A.se (digs (Int.toNat c)))) : Int) <
                          (↑(List.length ([] ++ A.se (digs (Int.toNat c)))) : Int)) then
                  none
                else none
              else
                bif
                    decide
                      ((0 : Int) ≤ Int.tmod (A.wrap IntKind.i64 a) (↑(List.length (A.se (digs (Int.toNat c)))) : Int) ∧
                        Int.tmod (A.wrap IntKind.i64 a) (↑(List.length (A.se (digs (Int.toNat c)))) : Int) <
                          (↑(List.length ([] ++ A.se (digs (Int.toNat c)))) : Int)) then
                  bif
                      A.se
                        (bytesB
                            (List.take (List.length ([] ++ A.se (digs (Int.toNat c))))
                              (List.drop (0 : Nat)
                                (List.set ([] ++ A.se (digs (Int.toNat c)))
                                  ((0 : Nat) +
                                    Int.toNat
                                      (Int.tmod (A.wrap IntKind.i64 a) (↑(List.length (A.se (digs (Int.toNat c)))) : Int)))
                                  x))) &&
                          decide
                            (List.length
                                (List.take (List.length ([] ++ A.se (digs (Int.toNat c))))
                                  (List.drop (0 : Nat)
                                    (List.set ([] ++ A.se (digs (Int.toNat c)))
                                      ((0 : Nat) +
                                        Int.toNat
                                          (Int.tmod (A.wrap IntKind.i64 a)
                                            (↑(List.length (A.se (digs (Int.toNat c)))) : Int)))
                                      x))) ≤
                              (1000000000 : Nat))) then
                    bif
                        decide
                          ((0 : Int) ≤
                              Int.tmod (A.wrap IntKind.i64 a) (↑(List.length (A.se (digs (Int.toNat c)))) : Int) ∧
                            Int.tmod (A.wrap IntKind.i64 a) (↑(List.length (A.se (digs (Int.toNat c)))) : Int) ≤
                              (↑(List.length (A.se (digs (Int.toNat c)))) : Int)) then
                      bif
                          decide
                            (((0 : Nat) +
                                  List.length
                                    (List.take
                                      (Int.toNat
                                        (Int.tmod (A.wrap IntKind.i64 a)
                                          (↑(List.length (A.se (digs (Int.toNat c)))) : Int)))
                                      (A.se (digs (Int.toNat c))))) *
                                (1 : Nat) ≤
                              (140737488355328 : Nat)) then
                        bif
                            decide
                              ((List.length
                                      ([] ++
                                        List.take
                                          (Int.toNat
                                            (Int.tmod (A.wrap IntKind.i64 a)
                                              (↑(List.length (A.se (digs (Int.toNat c)))) : Int)))
                                          (A.se (digs (Int.toNat c)))) +
                                    List.length [x]) *
                                  (1 : Nat) ≤
                                (140737488355328 : Nat)) then
                          bif
                              decide
                                ((0 : Int) ≤
                                    Int.tmod (A.wrap IntKind.i64 a) (↑(List.length (A.se (digs (Int.toNat c)))) : Int) ∧
                                  Int.tmod (A.wrap IntKind.i64 a) (↑(List.length (A.se (digs (Int.toNat c)))) : Int) ≤
                                    (↑(List.length (A.se (digs (Int.toNat c)))) : Int)) then
                            bif
                                decide
                                  ((List.length
                                          ([] ++
                                              List.take
                                                (Int.toNat
                                                  (Int.tmod (A.wrap IntKind.i64 a)
                                                    (↑(List.length (A.se (digs (Int.toNat c)))) : Int)))
                                                (A.se (digs (Int.toNat c))) ++
                                            [x]) +
                                        List.length
                                          (List.drop
                                            (Int.toNat
                                              (Int.tmod (A.wrap IntKind.i64 a)
                                                (↑(List.length (A.se (digs (Int.toNat c)))) : Int)))
                                            (A.se (digs (Int.toNat c))))) *
                                      (1 : Nat) ≤
                                    (140737488355328 : Nat)) then
                              bif
                                  A.se
                                    (bytesB
                                        ([] ++
                                              List.take
                                                (Int.toNat
                                                  (Int.tmod (A.wrap IntKind.i64 a)
                                                    (↑(List.length (A.se (digs (Int.toNat c)))) : Int)))
                                                (A.se (digs (Int.toNat c))) ++
                                            [x] ++
                                          List.drop
                                            (Int.toNat
                                              (Int.tmod (A.wrap IntKind.i64 a)
                                                (↑(List.length (A.se (digs (Int.toNat c)))) : Int)))
                                            (A.se (digs (Int.toNat c)))) &&
                                      decide
                                        (List.length
                                            ([] ++
                                                  List.take
                                                    (Int.toNat
                                                      (Int.tmod (A.wrap IntKind.i64 a)
                                                        (↑(List.length (A.se (digs (Int.toNat c)))) : Int)))
                                                    (A.se (digs (Int.toNat c))) ++
                                                [x] ++
                                              List.drop
                                                (Int.toNat
                                                  (Int.tmod (A.wrap IntKind.i64 a)
                                                    (↑(List.length (A.se (digs (Int.toNat c)))) : Int)))
                                                (A.se (digs (Int.toNat c)))) ≤
                                          (1000000000 : Nat))) then
                                bif
                                    decide
                                      (((0 : Nat) + List.length (A.se (digs (Int.toNat c)))) * (1 : Nat) ≤
                                        (140737488355328 : Nat)) then
                                  bif
                                      decide
                                        ((List.length ([] ++ A.se (digs (Int.toNat c))) + List.length [x]) * (1 : Nat) ≤
                                          (140737488355328 : Nat)) then
                                    bif
                                        A.se
                                          (bytesB ([] ++ A.se (digs (Int.toNat c)) ++ [x]) &&
                                            decide
                                              (List.length ([] ++ A.se (digs (Int.toNat c)) ++ [x]) ≤
                                                (1000000000 : Nat))) then
                                      bif
                                          (A.se
                                                (readE
                                                  (List.take (List.length ([] ++ A.se (digs (Int.toNat c))))
                                                    (List.drop (0 : Nat)
                                                      (List.set ([] ++ A.se (digs (Int.toNat c)))
                                                        ((0 : Nat) +
                                                          Int.toNat
                                                            (Int.tmod (A.wrap IntKind.i64 a)
                                                              (↑(List.length (A.se (digs (Int.toNat c)))) : Int)))
                                                        x)))) ==
                                              (50 : Int)) ==
                                            true then
                                        bif
                                            (A.se
                                                  (readE
                                                    ([] ++
                                                          List.take
                                                            (Int.toNat
                                                              (Int.tmod (A.wrap IntKind.i64 a)
                                                                (↑(List.length (A.se (digs (Int.toNat c)))) : Int)))
                                                            (A.se (digs (Int.toNat c))) ++
                                                        [x] ++
                                                      List.drop
                                                        (Int.toNat
                                                          (Int.tmod (A.wrap IntKind.i64 a)
                                                            (↑(List.length (A.se (digs (Int.toNat c)))) : Int)))
                                                        (A.se (digs (Int.toNat c))))) ==
                                                (50 : Int)) ==
                                              true then
                                          some
                                            (X.d Ty.bool
                                                (A.se (readE ([] ++ A.se (digs (Int.toNat c)) ++ [x])) == (50 : Int)),
                                              [(Ty.arr (List.length ([] ++ A.se (digs (Int.toNat c)))) (Ty.int IntKind.u8),
                                                  X.dead)])
                                        else
                                          some
                                            (X.d Ty.bool false,
                                              [(Ty.arr (List.length ([] ++ A.se (digs (Int.toNat c)))) (Ty.int IntKind.u8),
                                                  X.dead)])
                                      else
                                        some
                                          (X.d Ty.bool false,
                                            [(Ty.arr (List.length ([] ++ A.se (digs (Int.toNat c)))) (Ty.int IntKind.u8),
                                                X.dead)])
                                    else none
                                  else none
                                else none
                              else none
                            else none
                          else none
                        else none
                      else none
                    else none
                  else none
                else none
            else none
    else none) := by kernel_rfl

end Go.Proofs.YtlikejlgpfhkfaaDoor.V
