/- WHAT IS LEFT OF FUNCTIONS' CODE when the evaluator has read it. Printed by a tool of this claim's writer; each line is checked. -/
import Derived.Test.YtcnedmkfcbcjkaaRgb
namespace Go.Proofs.Ytcnedmkfcbcjkaa.Ra
open Go Go.Proofs.Try
set_option linter.unusedVariables false
noncomputable def ct_wire_GetNums : CT := look [(53, .pure F_wire_GetBytes), (90, .pure F_slices_Chunk_byte), (81, .pure F_wire_GetNum), (115, .seq F_slices_Chunk_byte_1)]
noncomputable def F_wire_GetNums : List D → Option (D) := evPure tt vv ct_wire_GetNums A_wire_GetNums Try.f54
theorem ok_wire_GetNums : OkPure prog 54 F_wire_GetNums := okPure' mixed tt_ok vv_ok (ct_pure ok_wire_GetBytes (ct_pure ok_slices_Chunk_byte (ct_pure ok_wire_GetNum (ct_seq ok_slices_Chunk_byte_1 ct_nil)))) (by kernel_rfl) (by kernel_rfl) (by kernel_rfl)
theorem F_wire_GetNums_eq (x0 : List D) : F_wire_GetNums [D.sl x0] =
  (F_wire_GetBytes [D.sl x0]).bind fun (y0 : D) =>
  (y0.ext 0).bind fun (y1 : D) =>
    (y0.ext 1).bind fun (y2 : D) =>
      (y0.ext 2).bind fun (y3 : D) =>
        (binD BinOp.neq y3 (D.int IntKind.i64 0)).bind fun (y4 : D) =>
          y4.asBool.bind fun (b5 : Bool) =>
            bif b5 then some (D.tup [D.sl [], D.sl [], y3])
            else
              (Option.map (fun (xs : List D) => xs.length) y1.elems).bind fun (n6 : Nat) =>
                bif (ofN n6).tmod 4 != 0 then some (D.tup [D.sl [], D.sl [], D.int IntKind.i64 2])
                else
                  (F_slices_Chunk_byte [y1, D.int IntKind.i64 4]).bind fun (y7 : D) =>
                    match
                      {
                            tmps :=
                              [V.d (D.sl x0), V.undef, V.own 2, V.own 3, V.d (D.int IntKind.i64 0), V.d y1, V.d y2, V.d y3, V.box 8 0, V.undef, V.undef, V.undef, V.undef, V.d y0,
                                V.d (D.sl x0), V.d y0, V.d y1, V.d y2, V.d y3, V.d y3, V.d (D.bool false), V.undef, V.d y1, V.d (D.int IntKind.i64 (ofN n6)),
                                V.d (D.int IntKind.i64 ((ofN n6).tmod 4)), V.d (D.bool false), V.d y1, V.d y7, V.undef, V.undef, V.undef, V.undef, V.undef, V.undef, V.undef,
                                V.undef, V.undef, V.undef, V.undef, V.undef, V.undef],
                            boxes := [(8, [V.own 1512])],
                            toks :=
                              [{ id := 1512, wr := true, sz := 1, xs := [] : Tok }, { id := 3, wr := true, sz := 1, xs := [] : Tok },
                                { id := 2, wr := true, sz := 1, xs := [] : Tok }] :
                            St }.opnd
                        (Operand.tmp 27) with
                    | V.d (D.clo gf env) =>
                      match ct_wire_GetNums gf with
                      | some (Entry.seq F) =>
                        (F env).bind fun (items : List (List D)) =>
                          bif
                              layFree (List.map (fun (x : Nat × List V) => x.fst) [(8, [V.own 1512])])
                                  (Code.region 8 #[{ dst := some 9, op := Op.assign (Operand.tmp 28), type := 36, pos := "wire.go:83", after := #[], guard := none : Oper }]
                                    false) &&
                                layFree (List.map (fun (x : Nat × List V) => x.fst) [(8, [V.own 1512])])
                                  (Code.block 1
                                    ((Code.region 9
                                          #[{ dst := some 30, op := Op.move (Operand.tmp 9), type := 36, pos := "wire.go:84", after := #[], guard := none : Oper },
                                            { dst := some 31,
                                              op :=
                                                Op.call
                                                  { callee := Callee.value (Operand.func 81), args := #[Operand.tmp 30, Operand.const (Value.int IntKind.i64 4)],
                                                    argTypes := #[36, 3] : Call },
                                              type := 98, pos := "wire.go:84", after := #[{ on := 0, ground := Ground.data : Edge }], guard := none : Oper },
                                            { dst := some 29, op := Op.move (Operand.tmp 31), type := 98, pos := "wire.go:84",
                                              after := #[{ on := 1, ground := Ground.data : Edge }], guard := none : Oper },
                                            { dst := some 32, op := Op.extract (Operand.tmp 29) 0, type := 3, pos := "wire.go:84",
                                              after := #[{ on := 2, ground := Ground.data : Edge }], guard := none : Oper },
                                            { dst := some 33, op := Op.extract (Operand.tmp 29) 1, type := 36, pos := "wire.go:84",
                                              after := #[{ on := 2, ground := Ground.data : Edge }, { on := 6, ground := Ground.gcOnly Departure.lateStores : Edge }],
                                              guard := none : Oper },
                                            { dst := some 34, op := Op.extract (Operand.tmp 29) 2, type := 29, pos := "wire.go:84",
                                              after := #[{ on := 2, ground := Ground.data : Edge }, { on := 7, ground := Ground.gcOnly Departure.lateStores : Edge }],
                                              guard := none : Oper },
                                            { dst := some 10, op := Op.assign (Operand.tmp 32), type := 3, pos := "wire.go:84",
                                              after :=
                                                #[{ on := 3, ground := Ground.data : Edge }, { on := 1, ground := Ground.chain : Edge }, { on := 0, ground := Ground.phase : Edge },
                                                  { on := 1, ground := Ground.phase : Edge }, { on := 2, ground := Ground.phase : Edge },
                                                  { on := 3, ground := Ground.phase : Edge }, { on := 4, ground := Ground.textOnly Departure.lateStores : Edge },
                                                  { on := 5, ground := Ground.textOnly Departure.lateStores : Edge }],
                                              guard := none : Oper },
                                            { dst := some 11, op := Op.assign (Operand.tmp 33), type := 36, pos := "wire.go:84",
                                              after :=
                                                #[{ on := 4, ground := Ground.data : Edge }, { on := 6, ground := Ground.chain : Edge }, { on := 0, ground := Ground.phase : Edge },
                                                  { on := 1, ground := Ground.phase : Edge }, { on := 2, ground := Ground.phase : Edge },
                                                  { on := 3, ground := Ground.phase : Edge }, { on := 4, ground := Ground.phase : Edge },
                                                  { on := 5, ground := Ground.textOnly Departure.lateStores : Edge }, { on := 6, ground := Ground.phase : Edge }],
                                              guard := none : Oper },
                                            { dst := some 12, op := Op.assign (Operand.tmp 34), type := 29, pos := "wire.go:84",
                                              after :=
                                                #[{ on := 5, ground := Ground.data : Edge }, { on := 7, ground := Ground.chain : Edge }, { on := 0, ground := Ground.phase : Edge },
                                                  { on := 1, ground := Ground.phase : Edge }, { on := 2, ground := Ground.phase : Edge },
                                                  { on := 3, ground := Ground.phase : Edge }, { on := 4, ground := Ground.phase : Edge },
                                                  { on := 5, ground := Ground.phase : Edge }, { on := 6, ground := Ground.phase : Edge },
                                                  { on := 7, ground := Ground.phase : Edge }],
                                              guard := none : Oper }]
                                          false).seq
                                      (Code.region 10
                                        #[{ dst := some 35, op := Op.load 23 (Operand.tmp 8), type := 23, pos := "wire.go:85", after := #[], guard := none : Oper },
                                          { dst := some 36, op := Op.move (Operand.tmp 10), type := 3, pos := "wire.go:85", after := #[], guard := none : Oper },
                                          { dst := some 37, op := Op.buildSlice 23 1 #[(0, Operand.tmp 36)], type := 23, pos := "wire.go:85",
                                            after := #[{ on := 1, ground := Ground.data : Edge }], guard := none : Oper },
                                          { dst := some 38,
                                            op := Op.call { callee := Callee.builtin Builtin.append, args := #[Operand.tmp 35, Operand.tmp 37], argTypes := #[23, 23] : Call },
                                            type := 23, pos := "wire.go:85", after := #[{ on := 0, ground := Ground.data : Edge }, { on := 2, ground := Ground.data : Edge }],
                                            guard := none : Oper },
                                          { dst := none, op := Op.store 23 (Operand.tmp 8) (Operand.tmp 38), type := 0, pos := "wire.go:85",
                                            after :=
                                              #[{ on := 3, ground := Ground.data : Edge }, { on := 3, ground := Ground.chain : Edge }, { on := 0, ground := Ground.phase : Edge },
                                                { on := 1, ground := Ground.phase : Edge }, { on := 2, ground := Ground.phase : Edge }, { on := 3, ground := Ground.phase : Edge }],
                                            guard := none : Oper }]
                                        false))) then
                            itemsK
                              (fun (s' : St) (kn : St → Option D) (ke : Nat → St → Option D) (kr : St → Option D) =>
                                ev tt vv ct_wire_GetNums A_wire_GetNums
                                  (Code.region 8 #[{ dst := some 9, op := Op.assign (Operand.tmp 28), type := 36, pos := "wire.go:83", after := #[], guard := none : Oper }] false)
                                  0 D
                                  {
                                    n := fun (s1 : St) =>
                                      ev tt vv ct_wire_GetNums A_wire_GetNums
                                        (Code.block 1
                                          ((Code.region 9
                                                #[{ dst := some 30, op := Op.move (Operand.tmp 9), type := 36, pos := "wire.go:84", after := #[], guard := none : Oper },
                                                  { dst := some 31,
                                                    op :=
                                                      Op.call
                                                        { callee := Callee.value (Operand.func 81), args := #[Operand.tmp 30, Operand.const (Value.int IntKind.i64 4)],
                                                          argTypes := #[36, 3] : Call },
                                                    type := 98, pos := "wire.go:84", after := #[{ on := 0, ground := Ground.data : Edge }], guard := none : Oper },
                                                  { dst := some 29, op := Op.move (Operand.tmp 31), type := 98, pos := "wire.go:84",
                                                    after := #[{ on := 1, ground := Ground.data : Edge }], guard := none : Oper },
                                                  { dst := some 32, op := Op.extract (Operand.tmp 29) 0, type := 3, pos := "wire.go:84",
                                                    after := #[{ on := 2, ground := Ground.data : Edge }], guard := none : Oper },
                                                  { dst := some 33, op := Op.extract (Operand.tmp 29) 1, type := 36, pos := "wire.go:84",
                                                    after := #[{ on := 2, ground := Ground.data : Edge }, { on := 6, ground := Ground.gcOnly Departure.lateStores : Edge }],
                                                    guard := none : Oper },
                                                  { dst := some 34, op := Op.extract (Operand.tmp 29) 2, type := 29, pos := "wire.go:84",
                                                    after := #[{ on := 2, ground := Ground.data : Edge }, { on := 7, ground := Ground.gcOnly Departure.lateStores : Edge }],
                                                    guard := none : Oper },
                                                  { dst := some 10, op := Op.assign (Operand.tmp 32), type := 3, pos := "wire.go:84",
                                                    after :=
                                                      #[{ on := 3, ground := Ground.data : Edge }, { on := 1, ground := Ground.chain : Edge },
                                                        { on := 0, ground := Ground.phase : Edge }, { on := 1, ground := Ground.phase : Edge },
                                                        { on := 2, ground := Ground.phase : Edge }, { on := 3, ground := Ground.phase : Edge },
                                                        { on := 4, ground := Ground.textOnly Departure.lateStores : Edge },
                                                        { on := 5, ground := Ground.textOnly Departure.lateStores : Edge }],
                                                    guard := none : Oper },
                                                  { dst := some 11, op := Op.assign (Operand.tmp 33), type := 36, pos := "wire.go:84",
                                                    after :=
                                                      #[{ on := 4, ground := Ground.data : Edge }, { on := 6, ground := Ground.chain : Edge },
                                                        { on := 0, ground := Ground.phase : Edge }, { on := 1, ground := Ground.phase : Edge },
                                                        { on := 2, ground := Ground.phase : Edge }, { on := 3, ground := Ground.phase : Edge },
                                                        { on := 4, ground := Ground.phase : Edge }, { on := 5, ground := Ground.textOnly Departure.lateStores : Edge },
                                                        { on := 6, ground := Ground.phase : Edge }],
                                                    guard := none : Oper },
                                                  { dst := some 12, op := Op.assign (Operand.tmp 34), type := 29, pos := "wire.go:84",
                                                    after :=
                                                      #[{ on := 5, ground := Ground.data : Edge }, { on := 7, ground := Ground.chain : Edge },
                                                        { on := 0, ground := Ground.phase : Edge }, { on := 1, ground := Ground.phase : Edge },
                                                        { on := 2, ground := Ground.phase : Edge }, { on := 3, ground := Ground.phase : Edge },
                                                        { on := 4, ground := Ground.phase : Edge }, { on := 5, ground := Ground.phase : Edge },
                                                        { on := 6, ground := Ground.phase : Edge }, { on := 7, ground := Ground.phase : Edge }],
                                                    guard := none : Oper }]
                                                false).seq
                                            (Code.region 10
                                              #[{ dst := some 35, op := Op.load 23 (Operand.tmp 8), type := 23, pos := "wire.go:85", after := #[], guard := none : Oper },
                                                { dst := some 36, op := Op.move (Operand.tmp 10), type := 3, pos := "wire.go:85", after := #[], guard := none : Oper },
                                                { dst := some 37, op := Op.buildSlice 23 1 #[(0, Operand.tmp 36)], type := 23, pos := "wire.go:85",
                                                  after := #[{ on := 1, ground := Ground.data : Edge }], guard := none : Oper },
                                                { dst := some 38,
                                                  op :=
                                                    Op.call { callee := Callee.builtin Builtin.append, args := #[Operand.tmp 35, Operand.tmp 37], argTypes := #[23, 23] : Call },
                                                  type := 23, pos := "wire.go:85", after := #[{ on := 0, ground := Ground.data : Edge }, { on := 2, ground := Ground.data : Edge }],
                                                  guard := none : Oper },
                                                { dst := none, op := Op.store 23 (Operand.tmp 8) (Operand.tmp 38), type := 0, pos := "wire.go:85",
                                                  after :=
                                                    #[{ on := 3, ground := Ground.data : Edge }, { on := 3, ground := Ground.chain : Edge },
                                                      { on := 0, ground := Ground.phase : Edge }, { on := 1, ground := Ground.phase : Edge },
                                                      { on := 2, ground := Ground.phase : Edge }, { on := 3, ground := Ground.phase : Edge }],
                                                  guard := none : Oper }]
                                              false)))
                                        0 D { n := kn, e := ke, r := kr : Kont D } s1,
                                    e := fun (x : Nat) (x_1 : St) => none, r := fun (x : St) => none : Kont D }
                                  s')
                              (bodyId
                                (Code.block 1
                                  ((Code.region 9
                                        #[{ dst := some 30, op := Op.move (Operand.tmp 9), type := 36, pos := "wire.go:84", after := #[], guard := none : Oper },
                                          { dst := some 31,
                                            op :=
                                              Op.call
                                                { callee := Callee.value (Operand.func 81), args := #[Operand.tmp 30, Operand.const (Value.int IntKind.i64 4)],
                                                  argTypes := #[36, 3] : Call },
                                            type := 98, pos := "wire.go:84", after := #[{ on := 0, ground := Ground.data : Edge }], guard := none : Oper },
                                          { dst := some 29, op := Op.move (Operand.tmp 31), type := 98, pos := "wire.go:84", after := #[{ on := 1, ground := Ground.data : Edge }],
                                            guard := none : Oper },
                                          { dst := some 32, op := Op.extract (Operand.tmp 29) 0, type := 3, pos := "wire.go:84",
                                            after := #[{ on := 2, ground := Ground.data : Edge }], guard := none : Oper },
                                          { dst := some 33, op := Op.extract (Operand.tmp 29) 1, type := 36, pos := "wire.go:84",
                                            after := #[{ on := 2, ground := Ground.data : Edge }, { on := 6, ground := Ground.gcOnly Departure.lateStores : Edge }], guard := none :
                                            Oper },
                                          { dst := some 34, op := Op.extract (Operand.tmp 29) 2, type := 29, pos := "wire.go:84",
                                            after := #[{ on := 2, ground := Ground.data : Edge }, { on := 7, ground := Ground.gcOnly Departure.lateStores : Edge }], guard := none :
                                            Oper },
                                          { dst := some 10, op := Op.assign (Operand.tmp 32), type := 3, pos := "wire.go:84",
                                            after :=
                                              #[{ on := 3, ground := Ground.data : Edge }, { on := 1, ground := Ground.chain : Edge }, { on := 0, ground := Ground.phase : Edge },
                                                { on := 1, ground := Ground.phase : Edge }, { on := 2, ground := Ground.phase : Edge }, { on := 3, ground := Ground.phase : Edge },
                                                { on := 4, ground := Ground.textOnly Departure.lateStores : Edge },
                                                { on := 5, ground := Ground.textOnly Departure.lateStores : Edge }],
                                            guard := none : Oper },
                                          { dst := some 11, op := Op.assign (Operand.tmp 33), type := 36, pos := "wire.go:84",
                                            after :=
                                              #[{ on := 4, ground := Ground.data : Edge }, { on := 6, ground := Ground.chain : Edge }, { on := 0, ground := Ground.phase : Edge },
                                                { on := 1, ground := Ground.phase : Edge }, { on := 2, ground := Ground.phase : Edge }, { on := 3, ground := Ground.phase : Edge },
                                                { on := 4, ground := Ground.phase : Edge }, { on := 5, ground := Ground.textOnly Departure.lateStores : Edge },
                                                { on := 6, ground := Ground.phase : Edge }],
                                            guard := none : Oper },
                                          { dst := some 12, op := Op.assign (Operand.tmp 34), type := 29, pos := "wire.go:84",
                                            after :=
                                              #[{ on := 5, ground := Ground.data : Edge }, { on := 7, ground := Ground.chain : Edge }, { on := 0, ground := Ground.phase : Edge },
                                                { on := 1, ground := Ground.phase : Edge }, { on := 2, ground := Ground.phase : Edge }, { on := 3, ground := Ground.phase : Edge },
                                                { on := 4, ground := Ground.phase : Edge }, { on := 5, ground := Ground.phase : Edge }, { on := 6, ground := Ground.phase : Edge },
                                                { on := 7, ground := Ground.phase : Edge }],
                                            guard := none : Oper }]
                                        false).seq
                                    (Code.region 10
                                      #[{ dst := some 35, op := Op.load 23 (Operand.tmp 8), type := 23, pos := "wire.go:85", after := #[], guard := none : Oper },
                                        { dst := some 36, op := Op.move (Operand.tmp 10), type := 3, pos := "wire.go:85", after := #[], guard := none : Oper },
                                        { dst := some 37, op := Op.buildSlice 23 1 #[(0, Operand.tmp 36)], type := 23, pos := "wire.go:85",
                                          after := #[{ on := 1, ground := Ground.data : Edge }], guard := none : Oper },
                                        { dst := some 38,
                                          op := Op.call { callee := Callee.builtin Builtin.append, args := #[Operand.tmp 35, Operand.tmp 37], argTypes := #[23, 23] : Call },
                                          type := 23, pos := "wire.go:85", after := #[{ on := 0, ground := Ground.data : Edge }, { on := 2, ground := Ground.data : Edge }],
                                          guard := none : Oper },
                                        { dst := none, op := Op.store 23 (Operand.tmp 8) (Operand.tmp 38), type := 0, pos := "wire.go:85",
                                          after :=
                                            #[{ on := 3, ground := Ground.data : Edge }, { on := 3, ground := Ground.chain : Edge }, { on := 0, ground := Ground.phase : Edge },
                                              { on := 1, ground := Ground.phase : Edge }, { on := 2, ground := Ground.phase : Edge }, { on := 3, ground := Ground.phase : Edge }],
                                          guard := none : Oper }]
                                      false))))
                              [28]
                              (List.map (V.clean (List.map (fun (x : Nat × List V) => x.fst) [(8, [V.own 1512])]))
                                [V.d (D.sl x0), V.undef, V.own 2, V.own 3, V.d (D.int IntKind.i64 0), V.d y1, V.d y2, V.d y3, V.box 8 0, V.undef, V.undef, V.undef, V.undef, V.d y0,
                                  V.d (D.sl x0), V.d y0, V.d y1, V.d y2, V.d y3, V.d y3, V.d (D.bool false), V.undef, V.d y1, V.d (D.int IntKind.i64 (ofN n6)),
                                  V.d (D.int IntKind.i64 ((ofN n6).tmod 4)), V.d (D.bool false), V.d y1, V.d y7, V.undef, V.undef, V.undef, V.undef, V.undef, V.undef, V.undef,
                                  V.undef, V.undef, V.undef, V.undef, V.undef, V.undef])
                              (List.map (fun (x : Nat × List V) => x.fst) [(8, [V.own 1512])])
                              (List.map (fun (x : Tok) => x.id)
                                [{ id := 1512, wr := true, sz := 1, xs := [] : Tok }, { id := 3, wr := true, sz := 1, xs := [] : Tok },
                                  { id := 2, wr := true, sz := 1, xs := [] : Tok }])
                              {
                                n :=
                                  ev tt vv ct_wire_GetNums A_wire_GetNums
                                    ((Code.region 11
                                          #[{ dst := some 39, op := Op.load 23 (Operand.tmp 8), type := 23, pos := "wire.go:87", after := #[], guard := none : Oper },
                                            { dst := some 40, op := Op.move (Operand.tmp 6), type := 36, pos := "wire.go:87",
                                              after := #[{ on := 2, ground := Ground.gcOnly Departure.lateStores : Edge }], guard := none : Oper },
                                            { dst := some 2, op := Op.assign (Operand.tmp 39), type := 23, pos := "wire.go:87",
                                              after :=
                                                #[{ on := 0, ground := Ground.data : Edge }, { on := 0, ground := Ground.phase : Edge },
                                                  { on := 1, ground := Ground.textOnly Departure.lateStores : Edge }],
                                              guard := none : Oper },
                                            { dst := some 3, op := Op.assign (Operand.tmp 40), type := 36, pos := "wire.go:87",
                                              after :=
                                                #[{ on := 1, ground := Ground.data : Edge }, { on := 2, ground := Ground.chain : Edge }, { on := 0, ground := Ground.phase : Edge },
                                                  { on := 1, ground := Ground.phase : Edge }, { on := 2, ground := Ground.phase : Edge }],
                                              guard := none : Oper },
                                            { dst := some 4, op := Op.assign (Operand.const (Value.int IntKind.i64 0)), type := 29, pos := "wire.go:87",
                                              after :=
                                                #[{ on := 3, ground := Ground.chain : Edge }, { on := 0, ground := Ground.phase : Edge },
                                                  { on := 1, ground := Ground.phase : Edge }, { on := 2, ground := Ground.phase : Edge },
                                                  { on := 3, ground := Ground.phase : Edge }],
                                              guard := none : Oper }]
                                          false).seq
                                      Code.ret)
                                    0 D (kPure tt f54),
                                e := fun (j : Nat) (s' : St) =>
                                  bif j == 0 then
                                    ev tt vv ct_wire_GetNums A_wire_GetNums
                                      ((Code.region 11
                                            #[{ dst := some 39, op := Op.load 23 (Operand.tmp 8), type := 23, pos := "wire.go:87", after := #[], guard := none : Oper },
                                              { dst := some 40, op := Op.move (Operand.tmp 6), type := 36, pos := "wire.go:87",
                                                after := #[{ on := 2, ground := Ground.gcOnly Departure.lateStores : Edge }], guard := none : Oper },
                                              { dst := some 2, op := Op.assign (Operand.tmp 39), type := 23, pos := "wire.go:87",
                                                after :=
                                                  #[{ on := 0, ground := Ground.data : Edge }, { on := 0, ground := Ground.phase : Edge },
                                                    { on := 1, ground := Ground.textOnly Departure.lateStores : Edge }],
                                                guard := none : Oper },
                                              { dst := some 3, op := Op.assign (Operand.tmp 40), type := 36, pos := "wire.go:87",
                                                after :=
                                                  #[{ on := 1, ground := Ground.data : Edge }, { on := 2, ground := Ground.chain : Edge },
                                                    { on := 0, ground := Ground.phase : Edge }, { on := 1, ground := Ground.phase : Edge },
                                                    { on := 2, ground := Ground.phase : Edge }],
                                                guard := none : Oper },
                                              { dst := some 4, op := Op.assign (Operand.const (Value.int IntKind.i64 0)), type := 29, pos := "wire.go:87",
                                                after :=
                                                  #[{ on := 3, ground := Ground.chain : Edge }, { on := 0, ground := Ground.phase : Edge },
                                                    { on := 1, ground := Ground.phase : Edge }, { on := 2, ground := Ground.phase : Edge },
                                                    { on := 3, ground := Ground.phase : Edge }],
                                                guard := none : Oper }]
                                            false).seq
                                        Code.ret)
                                      0 D (kPure tt f54) s'
                                  else none,
                                r := fun (s : St) => Option.map tupOf (resD tt s.shareAll [ResultVar.tmp 2, ResultVar.tmp 3, ResultVar.tmp 4]) : Kont D }
                              items [(8, [V.own 1512])]
                              [{ id := 1512, wr := true, sz := 1, xs := [] : Tok }, { id := 3, wr := true, sz := 1, xs := [] : Tok },
                                { id := 2, wr := true, sz := 1, xs := [] : Tok }]
                          else none
                      | x => none
                    | x => none := by kernel_rfl
noncomputable def G_wire_GetNums_r1 (items : List (List D)) (x0 : List D) (x1 : List D) (x2 : List D) (v : Int) (v_1 : Int) (v_2 : List D) : Option (D) := itemsIn tt vv ct_wire_GetNums A_wire_GetNums Try.f54 [1, 1, 1, 1, 1, 0, 1, 0] (kPure tt Try.f54)
  [V.d (D.sl x0), V.undef, V.d D.any, V.d D.any, V.d (D.int IntKind.i64 0), V.d (D.sl x1), V.d (D.sl x2), V.d (D.int IntKind.i64 0), V.box 8 0,
  V.undef, V.undef, V.undef, V.undef, V.d (D.tup [D.sl x1, D.sl x2, D.int IntKind.i64 0]), V.d (D.sl x0),
  V.d (D.tup [D.sl x1, D.sl x2, D.int IntKind.i64 0]), V.d (D.sl x1), V.d (D.sl x2), V.d (D.int IntKind.i64 0), V.d (D.int IntKind.i64 0), V.d (D.bool false), V.undef,
  V.d (D.sl x1), V.d (D.int IntKind.i64 v), V.d (D.int IntKind.i64 v_1), V.d (D.bool false), V.d (D.sl x1), V.d (D.clo 115 [D.ro [D.sl x1], D.ro [D.int IntKind.i64 4]]), V.undef,
  V.undef, V.undef, V.undef, V.undef, V.undef, V.undef, V.undef, V.undef, V.undef, V.undef, V.undef, V.undef]
  [8] [1512, 3, 2] items [(8, [V.own 1512])] [{ id := 1512, wr := true, sz := 1, xs := v_2 }, { id := 3, wr := true, sz := 1, xs := [] }, { id := 2, wr := true, sz := 1, xs := [] }]
theorem G_wire_GetNums_r1_nil (x0 : List D) (x1 : List D) (x2 : List D) (v : Int) (v_1 : Int) (v_2 : List D) : G_wire_GetNums_r1 [] x0 x1 x2 v v_1 v_2 =
  some (D.tup [D.sl v_2, D.sl x2, D.int IntKind.i64 0]) := by kernel_rfl
theorem G_wire_GetNums_r1_cons (d0 : D) (rest : List (List D)) (x0 : List D) (x1 : List D) (x2 : List D) (v : Int) (v_1 : Int) (v_2 : List D) : G_wire_GetNums_r1 ([d0] :: rest) x0 x1 x2 v v_1 v_2 =
  (F_wire_GetNum [d0, D.int IntKind.i64 4]).bind fun (y0 : D) =>
  (y0.ext 0).bind fun (y1 : D) =>
    (y0.ext 1).bind fun (y2 : D) =>
      (y0.ext 2).bind fun (y3 : D) =>
        bif
            (match y1 with
              | D.any => false
              | D.tup ds => false
              | D.agg ds => ds.length == 1
              | x => 1 == 1) &&
              true then
          bif ([y1].all fun (x : D) => x.cells.length == 1) && true then
            bif decide ((v_2.length + [y1].length) * 8 ≤ 140737488355328) then G_wire_GetNums_r1 rest x0 x1 x2 v v_1 (v_2 ++ [y1]) else none
          else none
        else none := by kernel_rfl
theorem F_wire_GetNums_fine (x0 x1 x2 : List D) (h : F_wire_GetBytes [D.sl x0] = some (D.tup [D.sl x1, D.sl x2, D.int IntKind.i64 0])) : F_wire_GetNums [D.sl x0] =
  bif (ofN x1.length).tmod 4 != 0 then some (D.tup [D.sl [], D.sl [], D.int IntKind.i64 2])
else
  (F_slices_Chunk_byte_1 [D.ro [D.sl x1], D.ro [D.int IntKind.i64 4]]).bind fun (items0 : List (List D)) =>
    bif
        ([{ dst := some 9, op := Op.assign (Operand.tmp 28), type := 36, pos := "wire.go:83", after := #[], guard := none }].all fun (o : Oper) =>
            match lays o with
            | some d => !(List.map (fun (x : Nat × List V) => x.fst) [(8, [V.own 1512])]).contains d
            | none => true) &&
          (([{ dst := some 30, op := Op.move (Operand.tmp 9), type := 36, pos := "wire.go:84", after := #[], guard := none },
                  { dst := some 31,
                    op := Op.call { callee := Callee.value (Operand.func 81), args := #[Operand.tmp 30, Operand.const (Value.int IntKind.i64 4)], argTypes := #[36, 3] },
                    type := 98, pos := "wire.go:84", after := #[{ on := 0, ground := Ground.data }], guard := none },
                  { dst := some 29, op := Op.move (Operand.tmp 31), type := 98, pos := "wire.go:84", after := #[{ on := 1, ground := Ground.data }], guard := none },
                  { dst := some 32, op := Op.extract (Operand.tmp 29) 0, type := 3, pos := "wire.go:84", after := #[{ on := 2, ground := Ground.data }], guard := none },
                  { dst := some 33, op := Op.extract (Operand.tmp 29) 1, type := 36, pos := "wire.go:84",
                    after := #[{ on := 2, ground := Ground.data }, { on := 6, ground := Ground.gcOnly Departure.lateStores }], guard := none },
                  { dst := some 34, op := Op.extract (Operand.tmp 29) 2, type := 29, pos := "wire.go:84",
                    after := #[{ on := 2, ground := Ground.data }, { on := 7, ground := Ground.gcOnly Departure.lateStores }], guard := none },
                  { dst := some 10, op := Op.assign (Operand.tmp 32), type := 3, pos := "wire.go:84",
                    after :=
                      #[{ on := 3, ground := Ground.data }, { on := 1, ground := Ground.chain }, { on := 0, ground := Ground.phase }, { on := 1, ground := Ground.phase },
                        { on := 2, ground := Ground.phase }, { on := 3, ground := Ground.phase }, { on := 4, ground := Ground.textOnly Departure.lateStores },
                        { on := 5, ground := Ground.textOnly Departure.lateStores }],
                    guard := none },
                  { dst := some 11, op := Op.assign (Operand.tmp 33), type := 36, pos := "wire.go:84",
                    after :=
                      #[{ on := 4, ground := Ground.data }, { on := 6, ground := Ground.chain }, { on := 0, ground := Ground.phase }, { on := 1, ground := Ground.phase },
                        { on := 2, ground := Ground.phase }, { on := 3, ground := Ground.phase }, { on := 4, ground := Ground.phase },
                        { on := 5, ground := Ground.textOnly Departure.lateStores }, { on := 6, ground := Ground.phase }],
                    guard := none },
                  { dst := some 12, op := Op.assign (Operand.tmp 34), type := 29, pos := "wire.go:84",
                    after :=
                      #[{ on := 5, ground := Ground.data }, { on := 7, ground := Ground.chain }, { on := 0, ground := Ground.phase }, { on := 1, ground := Ground.phase },
                        { on := 2, ground := Ground.phase }, { on := 3, ground := Ground.phase }, { on := 4, ground := Ground.phase }, { on := 5, ground := Ground.phase },
                        { on := 6, ground := Ground.phase }, { on := 7, ground := Ground.phase }],
                    guard := none }].all
              fun (o : Oper) =>
              match lays o with
              | some d => !(List.map (fun (x : Nat × List V) => x.fst) [(8, [V.own 1512])]).contains d
              | none => true) &&
            [{ dst := some 35, op := Op.load 23 (Operand.tmp 8), type := 23, pos := "wire.go:85", after := #[], guard := none },
                  { dst := some 36, op := Op.move (Operand.tmp 10), type := 3, pos := "wire.go:85", after := #[], guard := none },
                  { dst := some 37, op := Op.buildSlice 23 1 #[(0, Operand.tmp 36)], type := 23, pos := "wire.go:85", after := #[{ on := 1, ground := Ground.data }],
                    guard := none },
                  { dst := some 38, op := Op.call { callee := Callee.builtin Builtin.append, args := #[Operand.tmp 35, Operand.tmp 37], argTypes := #[23, 23] }, type := 23,
                    pos := "wire.go:85", after := #[{ on := 0, ground := Ground.data }, { on := 2, ground := Ground.data }], guard := none },
                  { dst := none, op := Op.store 23 (Operand.tmp 8) (Operand.tmp 38), type := 0, pos := "wire.go:85",
                    after :=
                      #[{ on := 3, ground := Ground.data }, { on := 3, ground := Ground.chain }, { on := 0, ground := Ground.phase }, { on := 1, ground := Ground.phase },
                        { on := 2, ground := Ground.phase }, { on := 3, ground := Ground.phase }],
                    guard := none }].all
              fun (o : Oper) =>
              match lays o with
              | some d => !(List.map (fun (x : Nat × List V) => x.fst) [(8, [V.own 1512])]).contains d
              | none => true) then
      G_wire_GetNums_r1 items0 x0 x1 x2 (ofN x1.length) ((ofN x1.length).tmod 4) []
    else none := by
  rw [F_wire_GetNums_eq, h, Option.bind_some]
  kernel_rfl
end Go.Proofs.Ytcnedmkfcbcjkaa.Ra
